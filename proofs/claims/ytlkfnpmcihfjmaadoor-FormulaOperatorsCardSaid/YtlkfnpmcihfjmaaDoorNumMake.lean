/-
  Make, by the program and by the reference. Conditions: those typed in each theorem.
-/
import Derived.Test.YtlkfnpmcihfjmaaDoorNumValid
namespace Go.Proofs.YtlkfnpmcihfjmaaDoor
open Go.RowKit

def mkB (n d : Int) : Bool := inV n && inV d && !(d == 0)
def mkN (n d : Int) : Int := if mkB n d = true then Num.redN n d else 0
def mkD (n d : Int) : Int := if mkB n d = true then Num.redD n d else 0
def mkE (n d : Int) : Int := if mkB n d = true then Num.redE n d else if (inV n && inV d) = true then 16 else 2

set_option maxHeartbeats 1000000 in
theorem make_any (n d : Int) (w : World) :
    Calls Tryd.prog 64 #[.int .i64 n, .int .i64 d] w fun e w' => e = .returned (.tuple #[.agg #[.int .i64 (mkN n d), .int .i64 (mkD n d)], .int .i64 (mkE n d)]) ∧ Below w.heap.size w w' := by
  have Kn := Known.made w 23 #[.int .i64 0, .int .i64 0]
  have q0 := Kn.free 0
  have q1 := Kn.free 1
  by_cases h1 : -1000000000 ≤ n
  rotate_left
  · have c : inV n = false := inV_no.2 (by omega)
    simp only [mkN, mkD, mkE, mkB, c, Bool.false_and, Bool.false_eq_true, if_false]
    clear c
    go_enter Tryd.func64, Tryd.ntmps64
    go_wp2
    exact bodyPost_ret (v := .tuple #[.agg #[.int .i64 0, .int .i64 0], .int .i64 2]) (by simp [results, Tryd.results64, go_sem]) rfl ⟨rfl, below_new0 w _⟩
  by_cases h2 : n ≤ 1000000000
  rotate_left
  · have c : inV n = false := inV_no.2 (by omega)
    simp only [mkN, mkD, mkE, mkB, c, Bool.false_and, Bool.false_eq_true, if_false]
    clear c
    go_enter Tryd.func64, Tryd.ntmps64
    go_wp2
    exact bodyPost_ret (v := .tuple #[.agg #[.int .i64 0, .int .i64 0], .int .i64 2]) (by simp [results, Tryd.results64, go_sem]) rfl ⟨rfl, below_new0 w _⟩
  by_cases h3 : -1000000000 ≤ d
  rotate_left
  · have c : inV d = false := inV_no.2 (by omega)
    simp only [mkN, mkD, mkE, mkB, c, Bool.and_false, Bool.false_and, Bool.false_eq_true, if_false]
    clear c
    go_enter Tryd.func64, Tryd.ntmps64
    go_wp2
    exact bodyPost_ret (v := .tuple #[.agg #[.int .i64 0, .int .i64 0], .int .i64 2]) (by simp [results, Tryd.results64, go_sem]) rfl ⟨rfl, below_new0 w _⟩
  by_cases h4 : d ≤ 1000000000
  rotate_left
  · have c : inV d = false := inV_no.2 (by omega)
    simp only [mkN, mkD, mkE, mkB, c, Bool.and_false, Bool.false_and, Bool.false_eq_true, if_false]
    clear c
    go_enter Tryd.func64, Tryd.ntmps64
    go_wp2
    exact bodyPost_ret (v := .tuple #[.agg #[.int .i64 0, .int .i64 0], .int .i64 2]) (by simp [results, Tryd.results64, go_sem]) rfl ⟨rfl, below_new0 w _⟩
  have c1 : inV n = true := inV_iff.2 ⟨h1, h2⟩
  have c2 : inV d = true := inV_iff.2 ⟨h3, h4⟩
  by_cases h5 : d = 0
  · have c3 : (d == 0) = true := by simpa using h5
    simp only [mkN, mkD, mkE, mkB, c1, c2, c3, Bool.and_self, Bool.not_true, Bool.and_false, Bool.false_eq_true, if_false, if_true]
    clear c1 c2
    go_enter Tryd.func64, Tryd.ntmps64
    go_wp2
    exact bodyPost_ret (v := .tuple #[.agg #[.int .i64 0, .int .i64 0], .int .i64 16]) (by simp [results, Tryd.results64, go_sem]) rfl ⟨rfl, below_new0 w _⟩
  · have c3 : (d == 0) = false := by simpa using h5
    simp only [mkN, mkD, mkE, mkB, c1, c2, c3, Bool.and_self, Bool.not_false, if_true]
    have I1 : ∀ w, Calls Tryd.prog 84 #[.int .i64 n] w fun e w' => e = .returned (.bool true) ∧ w = w' := fun w => c1 ▸ inside_any n w
    have I2 : ∀ w, Calls Tryd.prog 84 #[.int .i64 d] w fun e w' => e = .returned (.bool true) ∧ w = w' := fun w => c2 ▸ inside_any d w
    clear c1 c2
    go_enter Tryd.func64, Tryd.ntmps64
    go_wp2_with fail
    refine (I1 _).mono ?_
    rintro e w1 ⟨rfl, rfl⟩
    go_wp2_with fail
    refine (I2 _).mono ?_
    rintro e w1 ⟨rfl, rfl⟩
    go_wp2_with fail
    refine (reduce_any n d _ h5 (by omega) (by omega) (by omega) (by omega)).mono ?_
    rintro e w1 ⟨rfl, hb1⟩
    have Kn := Kn.on hb1
    obtain ⟨f0, f1⟩ := Kn.two
    have q0 := Kn.free 0
    have q1 := Kn.free 1
    have Kz : Known _ _ _ #[.int .i64 (Num.redN n d), .int .i64 (Num.redD n d)] := (Kn.put 0 (.int .i64 (Num.redN n d))).put 1 (.int .i64 (Num.redD n d))
    obtain ⟨z0, z1⟩ := Kz.two
    go_wp2
    exact bodyPost_ret (v := .tuple #[.agg #[.int .i64 (Num.redN n d), .int .i64 (Num.redD n d)], .int .i64 (Num.redE n d)]) (by simp [results, Tryd.results64, go_sem, z0, z1]) rfl ⟨rfl, (((below_new0 w _).then_ hb1).setCell (p := ⟨w.heap.size, 0, none⟩) (Nat.le_refl _) _).setCell (p := ⟨w.heap.size, 1, none⟩) (Nat.le_refl _) _⟩
end Go.Proofs.YtlkfnpmcihfjmaaDoor
