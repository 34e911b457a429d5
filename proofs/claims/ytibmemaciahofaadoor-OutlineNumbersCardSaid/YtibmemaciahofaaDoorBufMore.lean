/-
  strings.Builder: Write of a slice of bytes, Len. Turned from the worked WriteByte. Conditions: those typed in each theorem.
-/
import Derived.Test.YtibmemaciahofaaDoorBuf
import Derived.Test.YtibmemaciahofaaDoorShp
namespace Go.Proofs.YtibmemaciahofaaDoor
open Go.RowKit
set_option linter.unusedVariables false

theorem copyCheck_o (b : Nat) (bs : List Value) (w : World) (h : Lib.IsBuilderF 60 5 b b bs w) :
    Calls Tryd.prog 49 #[.pointer (some ⟨b, 0, none⟩)] w fun e w' => e = .returned (.tuple #[]) ∧ (Lib.BuilderAtF 60 5 b b (.pointer (some ⟨b, 0, none⟩)) bs w' ∧ Below b w w' ∧ Lib.OthersKept 5 (some b) w w') ∧ (∀ k, k ≠ b → w'.heap[k]? = w.heap[k]?) := by
  rcases h with h | h
  · refine (copyCheck_fresh b w h.cell0 h.shape h.frozen0).mono ?_
    rintro e w' ⟨rfl, rfl⟩
    exact ⟨rfl, ⟨h.used _, (Below.refl b w).setCell (p := ⟨b, 0, none⟩) h.1 _, (Lib.OthersKept.refl _ _ w).setCell ⟨b, 0, none⟩ rfl _⟩, fun k hk => Below.heap_setCell _ _ _ _ hk⟩
  · refine (copyCheck_used b w h.cell0).mono ?_
    rintro e w' ⟨rfl, rfl⟩
    exact ⟨rfl, ⟨h, Below.refl b _, Lib.OthersKept.refl _ _ _⟩, fun k hk => rfl⟩
set_option maxHeartbeats 2000000 in
set_option maxRecDepth 100000 in
theorem write_k (b g : Nat) (bs news : List Value) (w : World) (h : Lib.IsBuilderF 60 5 b b bs w) (hlen : bs.length + news.length ≤ 140737488355328)
    (hg : g ≠ b) (K : Known w g 5 news.toArray) (h1 : ∀ u ∈ news, u.oneCell' = true) :
    Calls Tryd.prog 28 #[.pointer (some ⟨b, 0, none⟩), .slice (some ⟨g, 0, none⟩) news.length news.length] w fun e w' => e = .returned (.tuple #[.int .i64 news.length, .nilIface]) ∧ (Lib.BuilderAtF 60 5 b b (.pointer (some ⟨b, 0, none⟩)) (bs ++ news) w' ∧ Below b w w' ∧ Lib.OthersKept 5 (some b) w w') := by
  obtain ⟨i0, hi, hz0, hz1, hz2⟩ := info_parts infoB
  have hBw := Nat.le_of_lt (bld_lt h)
  obtain ⟨m, hm⟩ : ∃ m, m = news.length := ⟨_, rfl⟩
  rw [← hm] at hlen ⊢
  have HMl := Lib.hid hm
  clear hm
  go_enter Tryd.func28, Tryd.ntmps28
  go_wp2_with fail
  refine (copyCheck_o b bs _ h).mono ?_
  rintro e w1 ⟨rfl, ⟨hx1, hb1, hk1⟩, ho1⟩
  obtain ⟨hB, v, hbk, hown, hne⟩ := hx1
  have c0 : w1.cell? ⟨b, 0, none⟩ = some (.pointer (some ⟨b, 0, none⟩)) := by rw [Lib.cell_of_heap hbk]; rfl
  have c1 : w1.cell? ⟨b, 1, none⟩ = some v := by rw [Lib.cell_of_heap hbk]; rfl
  have K1 : Known w1 g 5 news.toArray := (ho1 g hg).trans K
  have hsrc : ∀ j u, news[j]? = some u → w1.cell? ((⟨g, 0, none⟩ : Addr).add j) = some u := fun j u hu => by
    rw [add_at, Nat.zero_add, K1.cell j]
    simpa using hu
  have HSRC := Lib.hid hsrc
  have HO := Lib.hid h1
  clear hsrc K ho1 h1
  go_wp2_with (at_builtin; refine wpList_append_ownF _ rfl _ _ 58 rfl b 5 i0 (.int .u8 0) 1 1 Tryd.underlying58 hi hz0 hz1 hz2 rfl (by decide) _ _ _ rfl hown ⟨g, 0, none⟩ m m news rfl ?c0 HSRC.out HO.out ?c3 ?c4 ?c5 ?_)
  case c0 => rw [HMl.out, Nat.mul_one]
  case c3 => unfold maxLen; omega
  case c4 => omega
  case c5 => have := hb1.size; omega
  intro v' w2 hown' hgrow _
  have hlt : b < w1.heap.size := lt_of_block hbk
  have hb2 : w2.heap[b]? = some (.cells #[.pointer (some ⟨b, 0, none⟩), v] 60 (0, 0)) := by
    rw [hgrow.block b hlt (fun e => hne e.symm)]
    exact hbk
  have d0 : w2.cell? ⟨b, 0, none⟩ = some (.pointer (some ⟨b, 0, none⟩)) := by rw [Lib.cell_of_heap hb2]; rfl
  have d1 : w2.cell? ⟨b, 1, none⟩ = some v := by rw [Lib.cell_of_heap hb2]; rfl
  have f1 : w2.frozen? ⟨b, 1, none⟩ = false := Lib.frozen_of_heap hb2 1
  obtain ⟨ao, n', cap, rfl⟩ : ∃ ao n' cap, v' = .slice ao n' cap := by
    rcases hown'.2 with ⟨hv, _⟩ | ⟨g, cap, cur, fz, hv, _⟩
    · exact ⟨_, _, _, hv⟩
    · exact ⟨_, _, _, hv⟩
  go_wp2
  go_ret2
  refine ⟨rfl, ?_, ?_, (hk1.grown hgrow (Lib.ownsRowF_kind hown)).setCell ⟨b, 1, none⟩ rfl _⟩
  · exact Lib.BuilderAtF.put (T := 60) (e := 5) hB hb2 (bs' := bs ++ news) (by rw [List.length_append, ← HMl.out]; exact hown') (by decide)
  · exact (hb1.grown hgrow (by have := hb1.size; omega) (fun k hk => (hown.lt k hk).1)).setCell (p := ⟨b, 1, none⟩) hB _
theorem buf_write (b g : Nat) (l ns : List UInt8) (w : World) (h : Buf b l w) (hlen : l.length + ns.length ≤ 140737488355328) (hg : g ≠ b) (K : Known w g 5 (Lib.byteCells ns).toArray) :
    Calls Tryd.prog 28 #[.pointer (some ⟨b, 0, none⟩), .slice (some ⟨g, 0, none⟩) ns.length ns.length] w fun e w' => e = .returned (.tuple #[.int .i64 ns.length, .nilIface]) ∧ Buf b (l ++ ns) w' ∧ Rest b w w' := by
  have hl := Lib.byteCells_length ns
  have := write_k b g (Lib.byteCells l) (Lib.byteCells ns) w h (by rw [Lib.byteCells_length, hl]; exact hlen) hg K (by intro u hu; simp only [Lib.byteCells, List.mem_map] at hu; obtain ⟨x, _, rfl⟩ := hu; rfl)
  rw [hl] at this
  exact this.mono fun e w' ⟨he, h1, h2, h3⟩ => ⟨he, .inr (by rw [Lib.byteCells_append]; exact h1), h2, h3⟩
theorem buf_len (b : Nat) (l : List UInt8) (w : World) (h : Buf b l w) :
    Calls Tryd.prog 29 #[.pointer (some ⟨b, 0, none⟩)] w fun e w' => e = .returned (.int .i64 l.length) ∧ w = w' :=
  (Tryd.Builder_Len_f b b _ w h).mono fun e w' ⟨he, hw⟩ => ⟨by rw [he, Lib.byteCells_length], hw.symm⟩
end Go.Proofs.YtibmemaciahofaaDoor
