/-
  The reference's comparison of tables of contents, where both read as the same: it says yes. Conditions: those typed in each theorem.
-/
import Derived.Test.YtibmemaciahofaaDoorContMem
namespace Go.Proofs.YtibmemaciahofaaDoor
open Go.RowKit Doc Cont
set_option linter.unusedVariables false
attribute [local go_sem ↓] Go.wp_at_zero Go.wp_at_succ

set_option maxRecDepth 20000 in
set_option maxHeartbeats 1000000 in
theorem sameE_any (L : List Ent) (p : Option Addr) (c : Nat) (p' : Option Addr) (c' : Nat) (w : World) (hl : L.length ≤ 1000000) (h : Ents w p L) (h' : Ents w p' L) (hc : L.length ≤ c) (hc2 : c ≤ 9223372036854775807) (hc' : L.length ≤ c') (hc2' : c' ≤ 9223372036854775807) :
    Calls Tryd.prog 15 #[.slice p L.length c, .slice p' L.length c'] w fun e w' => e = .returned (.bool true) ∧ Below w.heap.size w w' := by
  obtain ⟨n, hn⟩ : ∃ n, n = L.length := ⟨_, rfl⟩
  rw [← hn] at hl hc hc' ⊢
  have HN := Lib.hid hn
  have HE := Lib.hid h
  have HE' := Lib.hid h'
  clear hn h h'
  go_enter Tryd.func15, Tryd.ntmps15
  go_wp2_with fail
  go_loopg [5] (n + 1) (fun g s5 wr => ∃ i : Nat, i ≤ n ∧ n < i + g ∧ s5 = .int .i64 i ∧ Below w.heap.size w wr)
  case atStart => exact ⟨0, by omega, by omega, rfl, Below.refl _ _⟩
  case round =>
    obtain ⟨i, hi1, hg, rfl, hb⟩ := hrel
    by_cases hin : i < n
    · have g1 : decide ((i : Int) < (n : Int)) = true := by simp; omega
      have hil : i < L.length := by rw [← HN.out]; exact hin
      obtain ⟨b, o, rfl, hbl, c0, c1, c2, c3⟩ := (HE.out.below hb).at hil
      obtain ⟨b', o', rfl, hbl', d0, d1, d2, d3⟩ := (HE'.out.below hb).at hil
      generalize L.getD i default = x at c0 c1 c2 c3 d0 d1 d2 d3
      obtain ⟨lv, num, txt, anc⟩ := x
      dsimp only at c0 c1 c2 c3 d0 d1 d2 d3
      have HB := Lib.hid hb
      clear hb hil
      go_upto_region 6 with fail
      go_cut [25] from 11 to 25 (fun s25 wc => s25 = .bool false ∧ Below wr.heap.size wr wc)
      case first =>
        refine wp_region_gr (by kernel_rfl) (by kernel_rfl) ?_
        repeat (go_big_quiet_step (fail))
        with_reducible refine wpQuiet_nil ?_
        intro _ hw'; obtain ⟨w6, hw''⟩ := hw'; subst hw''
        have B6 := gr_below wr w6
        go_wp2_with fail
        go_meet
        case rel => exact ⟨rfl, B6⟩
      case rest =>
        obtain ⟨rfl, hbc⟩ := hcut
        have hb2 := below_then HB.out hbc
        go_wp2_with fail
        go_roundg (n - i)
        case measure => omega
        case rel => exact ⟨i + 1, by omega, by omega, by go_num, hb2⟩
    · have g1 : decide ((i : Int) < (n : Int)) = false := by simp; omega
      go_wp2_with fail
      go_ret
      exact ⟨rfl, hb⟩
end Go.Proofs.YtibmemaciahofaaDoor
