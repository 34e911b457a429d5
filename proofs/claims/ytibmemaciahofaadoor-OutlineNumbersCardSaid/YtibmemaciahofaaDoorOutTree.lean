/-
  A tape made new; texts of marks and uses of notes in memory. Conditions: those typed in each theorem.
-/
import Derived.Test.YtibmemaciahofaaDoorTapeBls
import Derived.Test.YtibmemaciahofaaDoorNoteGood
namespace Go.Proofs.YtibmemaciahofaaDoor
open Go.RowKit Doc Note
set_option linter.unusedVariables false

theorem TP.made {w : World} {a : Option Addr} {len cap : Nat} {zs : List Int} (h : IsInts w a len cap zs) : TP w.heap.size (w.alloc (.cells #[.slice a len cap, .int .i64 0] 73)) := by
  have hb : ∀ x, a = some x → 0 < cap → x.block < w.heap.size := by
    intro x hx hl
    rcases h with ⟨_, _, h, _⟩ | ⟨y, hy, _, _, h7, h8, _⟩
    · omega
    · rw [hx] at hy
      obtain rfl := Option.some.inj hy
      have := World.block_lt_of_cell? w _ (h8 0 (by omega))
      rwa [add_block] at this
  exact ⟨a, len, cap, 0, zs, Known.made w _ _, h.keep (fun x i hx hp => (below_new0 w _).cell (p := x.add i) (by rw [add_block]; exact hb x hx hp)), by omega, hb⟩
theorem new_any (a : Option Addr) (len cap : Nat) (w : World) :
    Calls Tryd.prog 13 #[.slice a len cap] w fun e w' => e = .returned (.pointer (some ⟨w.heap.size, 0, none⟩)) ∧ w.alloc (.cells #[.slice a len cap, .int .i64 0] 73) = w' := by
  go_enter Tryd.func13, Tryd.ntmps13
  go_wp2_with fail
  go_ret
  exact ⟨rfl, rfl⟩
/-- a tape made new -/
theorem newT (a : Option Addr) (len cap : Nat) (zs : List Int) (w : World) (hz : IsInts w a len cap zs) :
    Calls Tryd.prog 13 #[.slice a len cap] w fun e w' => ∃ g, e = .returned (.pointer (some ⟨g, 0, none⟩)) ∧ w.heap.size ≤ g ∧ Below w.heap.size w w' ∧ TP g w' :=
  (new_any a len cap w).mono fun e w' ⟨h1, h2⟩ => ⟨_, h1, Nat.le_refl _, by rw [← h2]; exact below_new0 _ _, by rw [← h2]; exact TP.made hz⟩
theorem ienc_txt {q : Nat → Prop} {w : World} : ∀ {L : Ins} {xs : List Value}, IEnc q w L xs → ∀ j, j < L.len → xs[j * 6 + 1]? = some (.string (L.txt j)) := by
  intro L
  induction L with
  | nil => intro xs _ j hj; exact absurd hj (Nat.not_lt_zero _)
  | cons a t s n h k r _ ihr =>
    rintro xs ⟨v, zs, rfl, h2, h3⟩ j hj
    cases j with
    | zero => rfl
    | succ j =>
      have := ihr h3 j (by simpa [Ins.len] using hj)
      rw [show (j + 1) * 6 + 1 = j * 6 + 1 + 6 by omega]
      exact this
theorem sl_txt {q : Nat → Prop} {w : World} {p : Option Addr} {c : Nat} {L : Ins} (h : insS.sl q w (.slice p L.len c) L) (h0 : 0 < L.len) :
    ∃ b o, p = some ⟨b, o, none⟩ ∧ b < w.heap.size ∧ ∀ j, j < L.len → w.cell? ⟨b, o + j * 6 + 1, none⟩ = some (.string (L.txt j)) := by
  obtain ⟨p', c', h1, h2, h3, h4, h5⟩ := h
  injection h1 with e1 e2 e3
  subst e1 e3
  rcases h5 with h5 | ⟨b, o, ys, rfl, hq, hb, hA, hE⟩
  · exact absurd h5 (by show insS.len L ≠ 0; exact Nat.ne_of_gt h0)
  · exact ⟨b, o, rfl, hb, fun j hj => by have := hA _ _ (ienc_txt hE j hj); rw [Nat.add_assoc]; exact this⟩
theorem use_cells {w : World} {B : Nat} {v : Value} {us : List Nat} (h : w.ownsRow B 3 1 v us.length (ints us)) (h0 : 0 < us.length) :
    ∃ g c, v = .slice (some ⟨g, 0, none⟩) us.length c ∧ g < w.heap.size ∧ ∀ k, k < us.length → w.cell? ⟨g, k, none⟩ = some (.int .i64 ((us.getD k 0 : Nat) : Int)) := by
  have hl := h.lt
  have hA := fun g => own_at (g := g) h
  rcases h.2 with ⟨_, h1⟩ | ⟨g, cap, cur, rfl, _⟩
  · omega
  · refine ⟨g, cap, rfl, (hl g rfl).2, fun k hk => ?_⟩
    have := hA g rfl k (.int .i64 ((us.getD k 0 : Nat) : Int)) (by simp [ints, List.getD, List.getElem?_eq_getElem hk])
    rwa [Nat.zero_add] at this
end Go.Proofs.YtibmemaciahofaaDoor
