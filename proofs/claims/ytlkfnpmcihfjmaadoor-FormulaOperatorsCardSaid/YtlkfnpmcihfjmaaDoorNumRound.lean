/-
  Round, by the program and by the reference. Conditions: those typed in each theorem.
-/
import Derived.Test.YtlkfnpmcihfjmaaDoorNumOps
namespace Go.Proofs.YtlkfnpmcihfjmaaDoor
open Go.RowKit

/-- the rounded quotient -/
def rndU (a b p : Int) : Int := (2 * max a (-a) * p + b) / (2 * b)
def rndQ (a b p : Int) : Int := if a < 0 then -rndU a b p else rndU a b p
theorem rndU_bd {a b p : Int} (h1 : -1000000000 ≤ a) (h2 : a ≤ 1000000000) (h3 : 1 ≤ b) (h4 : b ≤ 1000000000) (p1 : 1 ≤ p) (p2 : p ≤ 1000000000) :
    0 ≤ 2 * max a (-a) * p ∧ 2 * max a (-a) * p ≤ 2000000000000000000 ∧ 0 ≤ rndU a b p ∧ rndU a b p ≤ 2000000001000000000 := by
  obtain ⟨m1, m2⟩ := mul_bd (x := max a (-a)) (y := p) (by omega) (by omega) (by omega) p2
  have m3 : 0 ≤ max a (-a) * p := Int.mul_nonneg (by omega) (by omega)
  have e : 2 * max a (-a) * p = 2 * (max a (-a) * p) := Int.mul_assoc _ _ _
  have u1 : 0 ≤ rndU a b p := Int.ediv_nonneg (by omega) (by omega)
  have u2 : rndU a b p ≤ 2 * max a (-a) * p + b := Int.ediv_le_self _ (by omega)
  omega

/-- the blocks of a number and of the result -/
def W2 (a b : Int) (w : World) : World := (w.alloc (.cells #[.int .i64 a, .int .i64 b] 23)).alloc (.cells #[.int .i64 0, .int .i64 0] 23)
theorem W2_below (a b : Int) (w : World) : Below w.heap.size w (W2 a b w) := (below_new0 w _).then_ (below_new0 _ _)
theorem W2_a (a b : Int) (w : World) : Known (W2 a b w) w.heap.size 23 #[.int .i64 a, .int .i64 b] := (Known.made w _ _).alloc _
theorem W2_r (a b : Int) (w : World) : Known (W2 a b w) (w.heap.size + 1) 23 #[.int .i64 0, .int .i64 0] := by
  have := Known.made (w.alloc (.cells #[.int .i64 a, .int .i64 b] 23)) 23 #[.int .i64 0, .int .i64 0]
  rw [show (w.alloc (.cells #[.int .i64 a, .int .i64 b] 23)).heap.size = w.heap.size + 1 by simp] at this
  exact this

set_option maxHeartbeats 1000000 in
theorem roundP_no (a b k : Int) (w : World) (i1 : I64 a) (i2 : I64 b) (v1 : Num.val a b = false) :
    Calls Tryd.prog 72 #[.agg #[.int .i64 a, .int .i64 b], .int .i64 k] w fun e w' => e = .returned (.tuple #[.agg #[.int .i64 0, .int .i64 0], .int .i64 7]) ∧ Below w.heap.size w w' := by
  go_enter Tryd.func72, Tryd.ntmps72
  go_wp2_with fail
  refine (valid_any a b _ i1 i2).mono ?_
  rintro e w1 ⟨rfl, hb1⟩
  rw [v1]
  change Below (W2 a b w).heap.size (W2 a b w) w1 at hb1
  have hb := (W2_below a b w).then_ hb1
  have KA := (W2_a a b w).on hb1
  have KR := (W2_r a b w).on hb1
  have hs : w.heap.size ≤ w.heap.size + 1 := by omega
  obtain ⟨a10, a11⟩ := KA.two
  obtain ⟨r10, r11⟩ := KR.two
  have q10 := KR.free 0
  have q11 := KR.free 1
  have Kz : Known _ _ _ #[.int .i64 0, .int .i64 0] := (KR.put 0 (.int .i64 0)).put 1 (.int .i64 0)
  obtain ⟨z0, z1⟩ := Kz.two
  go_wp2
  exact bodyPost_ret (v := .tuple #[.agg #[.int .i64 0, .int .i64 0], .int .i64 7]) (by simp [results, Tryd.results72, go_sem, z0, z1]) rfl ⟨rfl, (hb.setCell (p := ⟨w.heap.size + 1, 0, none⟩) hs _).setCell (p := ⟨w.heap.size + 1, 1, none⟩) hs _⟩

set_option maxHeartbeats 1000000 in
theorem roundP_range (a b k : Int) (w : World) (i1 : I64 a) (i2 : I64 b) (v1 : Num.val a b = true) (hk : k < 0 ∨ 9 < k) :
    Calls Tryd.prog 72 #[.agg #[.int .i64 a, .int .i64 b], .int .i64 k] w fun e w' => e = .returned (.tuple #[.agg #[.int .i64 0, .int .i64 0], .int .i64 2]) ∧ Below w.heap.size w w' := by
  rcases hk with hk | hk
  · go_enter Tryd.func72, Tryd.ntmps72
    go_wp2_with fail
    refine (valid_any a b _ i1 i2).mono ?_
    rintro e w1 ⟨rfl, hb1⟩
    rw [v1]
    change Below (W2 a b w).heap.size (W2 a b w) w1 at hb1
    have hb := (W2_below a b w).then_ hb1
    have KA := (W2_a a b w).on hb1
    have KR := (W2_r a b w).on hb1
    have hs : w.heap.size ≤ w.heap.size + 1 := by omega
    obtain ⟨a10, a11⟩ := KA.two
    obtain ⟨r10, r11⟩ := KR.two
    have q10 := KR.free 0
    have q11 := KR.free 1
    have Kz : Known _ _ _ #[.int .i64 0, .int .i64 0] := (KR.put 0 (.int .i64 0)).put 1 (.int .i64 0)
    obtain ⟨z0, z1⟩ := Kz.two
    go_wp2
    exact bodyPost_ret (v := .tuple #[.agg #[.int .i64 0, .int .i64 0], .int .i64 2]) (by simp [results, Tryd.results72, go_sem, z0, z1]) rfl ⟨rfl, (hb.setCell (p := ⟨w.heap.size + 1, 0, none⟩) hs _).setCell (p := ⟨w.heap.size + 1, 1, none⟩) hs _⟩
  · go_enter Tryd.func72, Tryd.ntmps72
    go_wp2_with fail
    refine (valid_any a b _ i1 i2).mono ?_
    rintro e w1 ⟨rfl, hb1⟩
    rw [v1]
    change Below (W2 a b w).heap.size (W2 a b w) w1 at hb1
    have hb := (W2_below a b w).then_ hb1
    have KA := (W2_a a b w).on hb1
    have KR := (W2_r a b w).on hb1
    have hs : w.heap.size ≤ w.heap.size + 1 := by omega
    obtain ⟨a10, a11⟩ := KA.two
    obtain ⟨r10, r11⟩ := KR.two
    have q10 := KR.free 0
    have q11 := KR.free 1
    have Kz : Known _ _ _ #[.int .i64 0, .int .i64 0] := (KR.put 0 (.int .i64 0)).put 1 (.int .i64 0)
    obtain ⟨z0, z1⟩ := Kz.two
    go_wp2
    exact bodyPost_ret (v := .tuple #[.agg #[.int .i64 0, .int .i64 0], .int .i64 2]) (by simp [results, Tryd.results72, go_sem, z0, z1]) rfl ⟨rfl, (hb.setCell (p := ⟨w.heap.size + 1, 0, none⟩) hs _).setCell (p := ⟨w.heap.size + 1, 1, none⟩) hs _⟩

set_option maxHeartbeats 2000000 in
theorem roundP_ok (a b : Int) (k : Nat) (w : World) (i1 : I64 a) (i2 : I64 b) (v1 : Num.val a b = true) (hk : k ≤ 9) :
    Calls Tryd.prog 72 #[.agg #[.int .i64 a, .int .i64 b], .int .i64 k] w fun e w' => e = .returned (.tuple #[.agg #[.int .i64 (Num.redN (rndQ a b (10 ^ k)) (10 ^ k)), .int .i64 (Num.redD (rndQ a b (10 ^ k)) (10 ^ k))], .int .i64 (Num.redE (rndQ a b (10 ^ k)) (10 ^ k))]) ∧ Below w.heap.size w w' := by
  obtain ⟨k1, k2, k3, k4, k5⟩ := Num.val_iff.1 v1
  obtain ⟨p1, p2⟩ := pow_bd k hk
  have hp : ∀ w, Calls Tryd.prog 60 #[.int .i64 k] w fun e w' => e = .returned (.int .i64 (10 ^ k)) ∧ w = w' := fun w => power_any k w hk
  generalize (10 : Int) ^ k = p at *
  obtain ⟨u1, u2, u3, u4⟩ := rndU_bd k1 k2 k3 k4 p1 p2
  have hu : (2 * max a (-a) * p + b) / (2 * b) = rndU a b p := rfl
  have hq : rndQ a b p = if a < 0 then -rndU a b p else rndU a b p := rfl
  by_cases ha : a < 0
  · rw [if_pos ha] at hq
    rw [hq]
    go_enter Tryd.func72, Tryd.ntmps72
    go_wp2_with fail
    refine (valid_any a b _ i1 i2).mono ?_
    rintro e w1 ⟨rfl, hb1⟩
    rw [v1]
    change Below (W2 a b w).heap.size (W2 a b w) w1 at hb1
    have hb := (W2_below a b w).then_ hb1
    have KA := (W2_a a b w).on hb1
    have KR := (W2_r a b w).on hb1
    have hs : w.heap.size ≤ w.heap.size + 1 := by omega
    obtain ⟨a10, a11⟩ := KA.two
    obtain ⟨r10, r11⟩ := KR.two
    have q10 := KR.free 0
    have q11 := KR.free 1
    go_wp2_with fail
    refine (hp _).mono ?_
    rintro e w2 ⟨rfl, rfl⟩
    go_wp2_with fail
    have hlt := KA.lt
    have hz : (2 * b == 0) = false := by simp; omega
    refine wp_region_gr (by kernel_rfl) (by kernel_rfl) ?_
    repeat (go_big_quiet_step ((go_at_call 82; exact gr_same (size_any _ _ (by omega) (by omega)))))
    refine wpQuiet_nil ?_
    intro _ hw'; obtain ⟨w5, hw''⟩ := hw'; subst hw''
    have hB := gr_below w1 w5
    generalize gr w1 w5 = w4 at *
    replace hb := hb.then_ hB
    replace KA := KA.on hB
    replace KR := KR.on hB
    obtain ⟨a40, a41⟩ := KA.two
    obtain ⟨r40, r41⟩ := KR.two
    have q40 := KR.free 0
    have q41 := KR.free 1
    go_wp2_with fail
    refine (reduce_any (-rndU a b p) p _ (by omega) (by omega) (by omega) (by omega) (by omega)).mono ?_
    rintro e w3 ⟨rfl, hb3⟩
    replace hb := hb.then_ hb3
    replace KR := KR.on hb3
    obtain ⟨r30, r31⟩ := KR.two
    have q30 := KR.free 0
    have q31 := KR.free 1
    have Kz : Known _ _ _ #[.int .i64 (Num.redN (-rndU a b p) p), .int .i64 (Num.redD (-rndU a b p) p)] := (KR.put 0 (.int .i64 (Num.redN (-rndU a b p) p))).put 1 (.int .i64 (Num.redD (-rndU a b p) p))
    obtain ⟨z0, z1⟩ := Kz.two
    go_wp2
    exact bodyPost_ret (v := .tuple #[.agg #[.int .i64 (Num.redN (-rndU a b p) p), .int .i64 (Num.redD (-rndU a b p) p)], .int .i64 (Num.redE (-rndU a b p) p)]) (by simp [results, Tryd.results72, go_sem, z0, z1]) rfl ⟨rfl, (hb.setCell (p := ⟨w.heap.size + 1, 0, none⟩) hs _).setCell (p := ⟨w.heap.size + 1, 1, none⟩) hs _⟩
  · rw [if_neg ha] at hq
    rw [hq]
    go_enter Tryd.func72, Tryd.ntmps72
    go_wp2_with fail
    refine (valid_any a b _ i1 i2).mono ?_
    rintro e w1 ⟨rfl, hb1⟩
    rw [v1]
    change Below (W2 a b w).heap.size (W2 a b w) w1 at hb1
    have hb := (W2_below a b w).then_ hb1
    have KA := (W2_a a b w).on hb1
    have KR := (W2_r a b w).on hb1
    have hs : w.heap.size ≤ w.heap.size + 1 := by omega
    obtain ⟨a10, a11⟩ := KA.two
    obtain ⟨r10, r11⟩ := KR.two
    have q10 := KR.free 0
    have q11 := KR.free 1
    go_wp2_with fail
    refine (hp _).mono ?_
    rintro e w2 ⟨rfl, rfl⟩
    go_wp2_with fail
    have hlt := KA.lt
    have hz : (2 * b == 0) = false := by simp; omega
    refine wp_region_gr (by kernel_rfl) (by kernel_rfl) ?_
    repeat (go_big_quiet_step ((go_at_call 82; exact gr_same (size_any _ _ (by omega) (by omega)))))
    refine wpQuiet_nil ?_
    intro _ hw'; obtain ⟨w5, hw''⟩ := hw'; subst hw''
    have hB := gr_below w1 w5
    generalize gr w1 w5 = w4 at *
    replace hb := hb.then_ hB
    replace KA := KA.on hB
    replace KR := KR.on hB
    obtain ⟨a40, a41⟩ := KA.two
    obtain ⟨r40, r41⟩ := KR.two
    have q40 := KR.free 0
    have q41 := KR.free 1
    go_wp2_with fail
    refine (reduce_any (rndU a b p) p _ (by omega) (by omega) (by omega) (by omega) (by omega)).mono ?_
    rintro e w3 ⟨rfl, hb3⟩
    replace hb := hb.then_ hb3
    replace KR := KR.on hb3
    obtain ⟨r30, r31⟩ := KR.two
    have q30 := KR.free 0
    have q31 := KR.free 1
    have Kz : Known _ _ _ #[.int .i64 (Num.redN (rndU a b p) p), .int .i64 (Num.redD (rndU a b p) p)] := (KR.put 0 (.int .i64 (Num.redN (rndU a b p) p))).put 1 (.int .i64 (Num.redD (rndU a b p) p))
    obtain ⟨z0, z1⟩ := Kz.two
    go_wp2
    exact bodyPost_ret (v := .tuple #[.agg #[.int .i64 (Num.redN (rndU a b p) p), .int .i64 (Num.redD (rndU a b p) p)], .int .i64 (Num.redE (rndU a b p) p)]) (by simp [results, Tryd.results72, go_sem, z0, z1]) rfl ⟨rfl, (hb.setCell (p := ⟨w.heap.size + 1, 0, none⟩) hs _).setCell (p := ⟨w.heap.size + 1, 1, none⟩) hs _⟩

end Go.Proofs.YtlkfnpmcihfjmaaDoor
