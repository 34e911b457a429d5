/-
  A list of numbers that came in reads as it did in every later memory. Conditions: those typed.
-/
import Derived.Test.YtibmemaciahofaaDoorOutTree
namespace Go.Proofs.YtibmemaciahofaaDoor
open Go.RowKit

theorem IsInts.below {W W' : World} {a : Option Addr} {len cap : Nat} {zs : List Int} (h : IsInts W a len cap zs) (hb : Below W.heap.size W W') : IsInts W' a len cap zs := by
  have hc : ∀ x, a = some x → 0 < cap → x.block < W.heap.size := by
    intro x hx hl
    rcases h with ⟨_, _, h, _⟩ | ⟨y, hy, _, _, h7, h8, _⟩
    · omega
    · rw [hx] at hy
      obtain rfl := Option.some.inj hy
      have := World.block_lt_of_cell? W _ (h8 0 (by omega))
      rwa [add_block] at this
  exact h.keep fun x i hx hp => hb.cell (p := x.add i) (by rw [add_block]; exact hc x hx hp)
end Go.Proofs.YtibmemaciahofaaDoor
