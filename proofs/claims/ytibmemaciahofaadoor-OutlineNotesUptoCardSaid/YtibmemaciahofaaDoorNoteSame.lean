/-
  The reference's comparison of lists of footnotes, where both read as the same: it says yes. Conditions: those typed in each theorem.
-/
import Derived.Test.YtibmemaciahofaaDoorOutTree
import Derived.Test.YtibmemaciahofaaDoorOutSame
namespace Go.Proofs.YtibmemaciahofaaDoor
open Go.RowKit Doc Note
set_option linter.unusedVariables false
attribute [local go_sem ↓] Go.wp_at_zero Go.wp_at_succ

/-- what a comparison of notes reads -/
def NF2 (q : Nat → Prop) (W : World) (np : Option Addr) (NN : List Nt) : Prop := ∀ i, i < NN.length → ∃ r gi uc ip ic, np = some ⟨r, 0, none⟩ ∧ r < W.heap.size ∧ gi < W.heap.size ∧
  W.cell? ⟨r, i * 3, none⟩ = some (.string (NN.getD i default).name) ∧ W.cell? ⟨r, i * 3 + 1, none⟩ = some (.slice ip (NN.getD i default).ins.len ic) ∧ W.cell? ⟨r, i * 3 + 2, none⟩ = some (.slice (some ⟨gi, 0, none⟩) (NN.getD i default).uses.length uc) ∧
  insS.sl q W (.slice ip (NN.getD i default).ins.len ic) (NN.getD i default).ins ∧ (∀ k, k < (NN.getD i default).uses.length → W.cell? ⟨gi, k, none⟩ = some (.int .i64 (((NN.getD i default).uses.getD k 0 : Nat) : Int)))
theorem NF2.below {q : Nat → Prop} {W V : World} {np : Option Addr} {NN : List Nt} (h : NF2 q W np NN) (hb : Below W.heap.size W V) : NF2 q V np NN := fun i hi => by
  obtain ⟨r, gi, uc, ip, ic, h1, h2, h3, h4, h5, h6, h7, h8⟩ := h i hi
  exact ⟨r, gi, uc, ip, ic, h1, Nat.lt_of_lt_of_le h2 hb.size, Nat.lt_of_lt_of_le h3 hb.size, (hb.cell (p := ⟨r, i * 3, none⟩) h2).trans h4, (hb.cell (p := ⟨r, i * 3 + 1, none⟩) h2).trans h5, (hb.cell (p := ⟨r, i * 3 + 2, none⟩) h2).trans h6, insS.sl_on h7 (Kept.below hb), fun k hk => (hb.cell (p := ⟨gi, k, none⟩) h3).trans (h8 k hk)⟩
theorem NF2.of {q : Nat → Prop} {B : Nat} {W : World} {p : Option Addr} {c : Nat} {NN : List Nt} {I U : Nat → Value} (h : NRow q B W (.slice p NN.length c) NN I U) (hne : ∀ j, j < NN.length → 0 < (NN.getD j default).uses.length) : NF2 q W p NN := fun i hi => by
  obtain ⟨r, c', e⟩ := h.form (by omega)
  injection e with e1 e2 e3
  subst e1 e3
  obtain ⟨h1, h2, h3, h4, h5, h6⟩ := h.cells hi
  obtain ⟨g, uc, e, hg, hcs⟩ := use_cells (h.use i hi) (hne i hi)
  have hin := h.ins i hi
  obtain ⟨ip, ic, hI⟩ := hin.form
  rw [e] at h3
  rw [hI] at h2 hin
  exact ⟨r, g, uc, ip, ic, rfl, h4, hg, h1, h2, h3, hin, hcs⟩
theorem sstr_self (a : ByteArray) : (a.toList == a.toList) = true := by simp

set_option maxRecDepth 20000 in
set_option maxHeartbeats 1000000 in
theorem sameN_any (q q' : Nat → Prop) (L : List Nt) (p : Option Addr) (c : Nat) (p' : Option Addr) (c' : Nat) (w : World) (hl : L.length ≤ 1000000) (hu : ∀ j, j < L.length → (L.getD j default).uses.length ≤ 1000000 ∧ (L.getD j default).ins.size ≤ 1000000) (h : NF2 q w p L) (h' : NF2 q' w p' L) :
    Calls Tryd.prog 21 #[.slice p L.length c, .slice p' L.length c'] w fun e w' => e = .returned (.bool true) ∧ Below w.heap.size w w' := by
  obtain ⟨n, hn⟩ : ∃ n, n = L.length := ⟨_, rfl⟩
  rw [← hn] at hl ⊢
  have HN := Lib.hid hn
  have HE := Lib.hid h
  have HE' := Lib.hid h'
  have HU := Lib.hid hu
  clear hn h h' hu
  go_enter Tryd.func21, Tryd.ntmps21
  go_wp2_with fail
  go_loopg [5, 6] (n + 1) (fun g s5 s6 wr => ∃ i : Nat, i ≤ n ∧ n < i + g ∧ s5 = .int .i64 i ∧ Below w.heap.size w wr)
  case atStart => exact ⟨0, by omega, by omega, rfl, Below.refl _ _⟩
  case round =>
    obtain ⟨i, hi1, hg, rfl, hb⟩ := hrel
    by_cases hin : i < n
    · have g1 : decide ((i : Int) < (n : Int)) = true := by simp; omega
      have hil : i < L.length := by rw [← HN.out]; exact hin
      obtain ⟨r, gi, uc, ip, ic, rfl, hr, hgi, c0, c1, c2, csl, cu⟩ := (HE.out.below hb) i hil
      obtain ⟨r', gi', uc', ip', ic', rfl, hr', hgi', d0, d1, d2, dsl, du⟩ := (HE'.out.below hb) i hil
      obtain ⟨hu1, hu2⟩ := HU.out i hil
      generalize L.getD i default = x at c0 c1 c2 csl cu d0 d1 d2 dsl du hu1 hu2
      obtain ⟨nm, ins, us⟩ := x
      dsimp only at c0 c1 c2 csl cu d0 d1 d2 dsl du hu1 hu2
      have hC := fun x => same_any _ q q' ins ip ic ip' ic' (gr wr x) (Nat.lt_succ_self _) hu2 (insS.sl_on csl (Kept.below (gr_below wr x))) (insS.sl_on dsl (Kept.below (gr_below wr x)))
      generalize hul : us.length = ul at c2 cu d2 du hu1
      generalize ins.len = il at c1 d1 hC
      have HB := Lib.hid hb
      have HCU := Lib.hid cu
      have HDU := Lib.hid du
      have HG := Lib.hid hg
      have ss := sstr_self nm
      clear hb hil csl dsl hul cu du hg
      go_upto_region 6 with fail
      go_cut [57] from 12 to 84 (fun s57 wc => s57 = .bool false ∧ Below wr.heap.size wr wc)
      case first =>
        clear HCU HDU HE HE' HU HN HB HG
        refine wp_region_gr (by kernel_rfl) (by kernel_rfl) ?_
        repeat (go_big_quiet_step ((go_at_call 18; exact gr_call (hC _))))
        with_reducible refine wpQuiet_nil ?_
        intro _ hw'; obtain ⟨w6, hw''⟩ := hw'; subst hw''
        have B6 := gr_below wr w6
        go_wp2_with fail
        go_meet
        case rel => exact ⟨rfl, B6⟩
      case rest =>
        obtain ⟨rfl, hbc⟩ := hcut
        have hz := hbc.size
        clear hC
        go_wp2_with fail
        go_loopg [6] (ul + 1) (fun g s6 wi => ∃ k : Nat, k ≤ ul ∧ ul < k + g ∧ s6 = .int .i64 k ∧ ∀ V, V = wc → Below V.heap.size V wi)
        case atStart => exact ⟨0, by omega, by omega, rfl, fun V hV => by subst hV; exact Below.refl _ _⟩
        case round =>
          obtain ⟨k, hk1, hkg, rfl, hbk⟩ := hrel
          have hbk := hbk _ rfl
          have hbb := below_then hbc hbk
          have hzb := hbb.size
          replace c2 := (hbb.cell (p := ⟨r, i * 3 + 2, none⟩) hr).trans c2
          replace d2 := (hbb.cell (p := ⟨r', i * 3 + 2, none⟩) hr').trans d2
          have hr2 := Nat.lt_of_lt_of_le hr hzb
          have hr2' := Nat.lt_of_lt_of_le hr' hzb
          have hg2 := Nat.lt_of_lt_of_le hgi hzb
          have hg2' := Nat.lt_of_lt_of_le hgi' hzb
          clear c0 c1 d0 d1
          by_cases hk : k < ul
          · have g2 : decide ((k : Int) < (ul : Int)) = true := by simp; omega
            have x1 := (hbb.cell (p := ⟨gi, k, none⟩) hgi).trans (HCU.out k hk)
            have x2 := (hbb.cell (p := ⟨gi', k, none⟩) hgi').trans (HDU.out k hk)
            generalize us.getD k 0 = u at x1 x2
            have HK := Lib.hid hkg
            have HBK := Lib.hid hbk
            clear hkg hbk hbb
            go_upto_region 11 with fail
            go_cut [84] from 58 to 84 (fun s84 wd => s84 = .bool false ∧ Below wr.heap.size wr wd)
            case first =>
              clear HCU HDU HE HE' HU HN HB HG HK HBK
              refine wp_region_gr (by kernel_rfl) (by kernel_rfl) ?_
              repeat (go_big_quiet_step (fail))
              with_reducible refine wpQuiet_nil ?_
              intro _ hw'; obtain ⟨w6, hw''⟩ := hw'; subst hw''
              have B6 := gr_below wr w6
              go_wp2_with fail
              go_meet
              case rel => exact ⟨rfl, B6⟩
            case rest =>
              obtain ⟨rfl, hbd⟩ := hcut
              have hb3 := below_then HBK.out hbd
              go_wp2_with fail
              go_roundg (ul - k)
              case measure => have := HK.out; omega
              case rel => exact ⟨k + 1, by omega, by omega, by go_num, fun V hV => by subst hV; exact hb3⟩
          · have g2 : decide ((k : Int) < (ul : Int)) = false := by simp; omega
            have hb4 := below_then HB.out hbb
            go_wp2_with fail
            go_roundg (n - i)
            case measure => have := HG.out; omega
            case rel => exact ⟨i + 1, by omega, by omega, by go_num, hb4⟩
    · have g1 : decide ((i : Int) < (n : Int)) = false := by simp; omega
      go_wp2_with fail
      go_ret
      exact ⟨rfl, hb⟩
end Go.Proofs.YtibmemaciahofaaDoor
