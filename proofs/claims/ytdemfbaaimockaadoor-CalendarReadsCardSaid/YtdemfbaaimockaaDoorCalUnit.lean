/-
  calendar.Unit: the unit of a pattern, by the program. Conditions: those typed in each theorem.
-/
import Derived.Test.YtdemfbaaimockaaDoorCalCodes
namespace Go.Proofs.YtdemfbaaimockaaDoor
open Go.RowKit

def UI (w : World) (b : Nat) (done : List (UInt8 × Bool)) (w' : World) : Prop :=
  Known w' b 3 #[.int .i64 (Cal.unit done)] ∧ Below w.heap.size w w'

theorem unit_done {w w1 : World} {b : Nat} {done : List (UInt8 × Bool)} (hb : w.heap.size ≤ b) (h : UI w b done w1) (c : UInt8) (u : Int) (hu : u = Cal.unitStep (Cal.unit done) (c, true)) :
    UI w b (done ++ [(c, true)]) (w1.setCell ⟨b, 0, none⟩ (.int .i64 u)) := by
  subst hu
  refine ⟨?_, h.2.setCell hb _⟩
  rw [Cal.unit_snoc]
  exact h.1.put 0 _

theorem unit_le (l : List (UInt8 × Bool)) : Cal.unit l ≤ 5 ∧ 1 ≤ Cal.unit l := by
  have key : ∀ (l : List (UInt8 × Bool)) (u : Int), u ≤ 5 → 1 ≤ u → l.foldl Cal.unitStep u ≤ 5 ∧ 1 ≤ l.foldl Cal.unitStep u := by
    intro l
    induction l with
    | nil => intro u h h'; exact ⟨h, h'⟩
    | cons e l ih =>
      intro u h h'
      have ho : 1 ≤ Cal.unitOf e.1 := by unfold Cal.unitOf; split <;> first | omega | (split <;> first | omega | (split <;> first | omega | (split <;> omega)))
      apply ih <;> (unfold Cal.unitStep; split <;> omega)
  exact key l 5 (by omega) (by omega)

set_option maxHeartbeats 4000000 in
theorem unit_call (w : World) (b : Nat) (N : Nat) (hb : w.heap.size ≤ b) : Hands N 44 #[.pointer (some ⟨b, 0, none⟩)] (UI w b) := by
  intro done c cb w1 hlen hc hI
  have hcell : w1.cell? ⟨b, 0, none⟩ = some (.int .i64 (Cal.unit done)) := by rw [hI.1.cell]; rfl
  have hfree : w1.frozen? ⟨b, 0, none⟩ = false := hI.1.free 0
  cases cb
  · show Calls Tryd.prog 44 #[.int .u8 c.toNat, .bool false, .pointer (some ⟨b, 0, none⟩)] w1 _
    go_enter Tryd.func44, Tryd.ntmps44
    go_wp2_with fail
    exact bodyPost_ret (v := .tuple #[]) (by simp [results, Tryd.results44, go_sem]) rfl ⟨rfl, by rw [show Cal.unit (done ++ [(c, false)]) = Cal.unit done by rw [Cal.unit_snoc]; rfl]; exact hI.1, hI.2⟩
  · have hc' := hc rfl
    clear hc
    rcases Cal.isCode_cases hc' with rfl | rfl | rfl | rfl | rfl | rfl | rfl | rfl | rfl | rfl | rfl | rfl | rfl | rfl
    all_goals
      show Calls Tryd.prog 44 #[.int .u8 _, .bool true, .pointer (some ⟨b, 0, none⟩)] w1 _
      go_enter Tryd.func44, Tryd.ntmps44
      go_wp2_with fail
    · go_end0
      refine ⟨rfl, ?_, hI.2⟩
      have hu := unit_le done
      rw [show Cal.unit (done ++ [(89, true)]) = Cal.unit done by rw [Cal.unit_snoc]; show min _ (5 : Int) = _; omega]
      exact hI.1
    all_goals
      go_end0
      exact ⟨rfl, unit_done hb hI _ _ (by simp [Cal.unitStep, Cal.unitOf])⟩

theorem enters_unit : ∀ args w, (callFunc 44 args).run Tryd.prog w = .ok (.enter 44 args) w := enters_of Tryd.func44 (by kernel_rfl) rfl

theorem unit_any (s : ByteArray) (w : World) (hs : s.size ≤ 1000000) :
    Calls Tryd.prog 22 #[.string s] w fun e w' => e = .returned (.int .i64 (Cal.unit (Cal.evs s.data.toList))) ∧ Below w.heap.size w w' := by
  go_enter Tryd.func22, Tryd.ntmps22
  go_wp2_with fail
  have hI : UI w w.heap.size [] (w.alloc (.cells #[.int .i64 5] 3)) := ⟨Known.made _ _ _, below_new0 _ _⟩
  refine (codes_any s 44 _ (UI w w.heap.size) _ hs enters_unit (unit_call w w.heap.size s.size (by omega)) hI).mono ?_
  rintro e w1 ⟨rfl, hk, hbel⟩
  clear hI
  have hcell : w1.cell? ⟨w.heap.size, 0, none⟩ = some (.int .i64 (Cal.unit (Cal.evs s.data.toList))) := by rw [hk.cell]; rfl
  go_wp2_with fail
  go_ret
  exact ⟨rfl, hbel⟩
end Go.Proofs.YtdemfbaaimockaaDoor
