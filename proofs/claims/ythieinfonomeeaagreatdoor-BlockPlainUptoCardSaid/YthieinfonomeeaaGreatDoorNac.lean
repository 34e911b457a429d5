/-
  Lists of elements and of blocks that came in: read as data, they lie in memory as plain lists. Conditions: those typed in each theorem.
-/
import Derived.Test.YthieinfonomeeaaGreatDoorAag
import Derived.Test.YthieinfonomeeaaGreatDoorNaa
import Derived.Test.YthieinfonomeeaaGreatDoorRows
import Derived.Deep.Slices
import Derived.ChangeArms
import Derived.ChangeSame

namespace Go.Proofs.YthieinfonomeeaaGreatDoor
open Go.RowKit Doc Go.ChangeShapes Go.WideShapes Go.Deep
set_option linter.unusedVariables false

theorem bulkAll_append {H : Type} (l r : List (DataW H)) : Rows.uptoBulkAll (l ++ r) = Rows.uptoBulkAll l + Rows.uptoBulkAll r := by
  induction l with
  | nil => simp [Rows.uptoBulkAll]
  | cons x l ih => simp only [List.cons_append, Rows.uptoBulkAll, ih]; omega
theorem bulkAll_range {H : Type} (D : Nat → DataW H) (k : Nat) : Rows.uptoBulkAll ((List.range (k + 1)).map D) = Rows.uptoBulkAll ((List.range k).map D) + Rows.uptoBulk (D k) := by
  rw [List.range_succ, List.map_append, bulkAll_append]; simp [Rows.uptoBulkAll]
theorem Doc.Ins.blk_app : ∀ a b : Ins, (a.app b).bulk = a.bulk + b.bulk
  | .nil, b => by simp [Ins.app, Ins.bulk]
  | .cons a t s n h k r, b => by simp only [Ins.app, Ins.bulk, Ins.blk_app r]; omega
theorem Doc.Bls.blk_app : ∀ a b : Bls, (a.app b).bulk = a.bulk + b.bulk
  | .nil, b => by simp [Bls.app, Bls.bulk]
  | .cons a l t i k r, b => by simp only [Bls.app, Bls.bulk, Bls.blk_app r]; omega
theorem lt_of_cell {w : World} {a : Addr} {v : Value} (h : w.cell? a = some v) : a.block < w.heap.size := World.block_lt_of_cell? w _ h
theorem spot_of_cell {w : World} {a : Addr} {v : Value} (h : w.cell? a = some v) : a.spot = none := by
  unfold World.cell? at h
  split at h
  · split at h
    · cases h
    · rename_i h1; simpa using h1
  · cases h

section
variable {H : Type} {enc : TypeId × Value → H} {w : World} {base : Nat} {spare : Nat → Bool} {held : Bool}

theorem read_int {fuel : Nat} {cs : List Value} {x : DataW H × List MemPlace} (h : DataW.trod enc Tryz.prog w base spare held fuel 3 cs = some x) : ∃ n, cs = [.int .i64 n] ∧ 1 ≤ Rows.uptoBulk x.1 := by
  obtain ⟨n, rfl, rfl, _⟩ := DataW.trod_int Tryz.underlying3 h
  exact ⟨n, rfl, by simp [Rows.uptoBulk]⟩
theorem read_string {fuel : Nat} {cs : List Value} {x : DataW H × List MemPlace} (h : DataW.trod enc Tryz.prog w base spare held fuel 9 cs = some x) : ∃ s : ByteArray, cs = [.string s] ∧ s.size + 1 ≤ Rows.uptoBulk x.1 := by
  obtain ⟨s, rfl, rfl, _⟩ := DataW.trod_string Tryz.underlying9 h
  exact ⟨s, rfl, by simp [Rows.uptoBulk]⟩
theorem sizeI : Tryz.prog.cellsOf 56 = 6 := by kernel_rfl
theorem sizeB : Tryz.prog.cellsOf 44 = 5 := by kernel_rfl
theorem sizeT : Tryz.prog.cellsOf 54 = 2 := by kernel_rfl
theorem sizeZ : Tryz.prog.cellsOf 3 = 1 := by kernel_rfl
theorem sizeS : Tryz.prog.cellsOf 9 = 1 := by kernel_rfl
theorem sizeLI : Tryz.prog.cellsOf 42 = 1 := by kernel_rfl
theorem sizeLB : Tryz.prog.cellsOf 23 = 1 := by kernel_rfl
/-- the first k of a list, as data: one more -/
theorem bulkAll_take (l : List (DataW H × List MemPlace)) (k : Nat) (y : DataW H × List MemPlace) (h : l[k]? = some y) : Rows.uptoBulkAll ((l.take (k + 1)).map (·.1)) = Rows.uptoBulkAll ((l.take k).map (·.1)) + Rows.uptoBulk y.1 := by
  rw [List.take_add_one, h]
  simp only [Option.toList_some, List.map_append, List.map_cons, List.map_nil, bulkAll_append, Rows.uptoBulkAll]
  omega
/-- cells one behind the other -/
theorem cells_more {a : Addr} {ys cs : List Value} {k sz : Nat} (hy : ys.length = k * sz) (h : ∀ j u, ys[j]? = some u → w.cell? (a.add j) = some u) (hc : ∀ i, i < sz → w.cell? ((a.add (k * sz)).add i) = cs[i]?) (hl : cs.length = sz) :
    ∀ j u, (ys ++ cs)[j]? = some u → w.cell? (a.add j) = some u := by
  intro j u hu
  by_cases hj : j < ys.length
  · rw [List.getElem?_append_left hj] at hu; exact h j u hu
  · rw [List.getElem?_append_right (by omega)] at hu
    have hlt : j - ys.length < sz := by
      have := (List.getElem?_eq_some_iff.1 hu).1
      omega
    have := hc (j - ys.length) hlt
    rw [hu, Go.Deep.add_add, show k * sz + (j - ys.length) = j by omega] at this
    exact this
/-- a slice that was read cell for cell -/
theorem sl_read {α : Type} {S : Shp α} {a : Addr} {len cap : Nat} {L : α} {ys : List Value} (hs : 0 < S.sz) (hl : len ≤ cap) (hm : cap ≤ maxLen) (hL : S.len L = len) (hE : S.enc (fun k => k < w.heap.size) w L ys) (hc : ∀ j u, ys[j]? = some u → w.cell? (a.add j) = some u) :
    S.sl (fun k => k < w.heap.size) w (.slice (some a) len cap) L := by
  subst hL
  refine ⟨some a, cap, rfl, hl, hm, (fun h => by cases h), ?_⟩
  by_cases h0 : S.len L = 0
  · exact .inl h0
  · right
    have hyl := S.length hE
    have hpos : 0 < ys.length := by rw [hyl]; exact Nat.mul_pos (Nat.pos_of_ne_zero h0) hs
    have h1 := hc 0 ys[0] (List.getElem?_eq_getElem hpos)
    rw [show a.add 0 = a from rfl] at h1
    have hsp := spot_of_cell h1
    have hlt := lt_of_cell h1
    obtain ⟨b, o, sp⟩ := a
    simp only at hsp hlt
    subst hsp
    exact ⟨b, o, ys, rfl, hlt, hlt, fun i u hu => by have := hc i u hu; rwa [add_at] at this, hE⟩

set_option maxRecDepth 20000 in
theorem read_ins : ∀ (fuel : Nat) (cs : List Value) (x : DataW H × List MemPlace), DataW.trod enc Tryz.prog w base spare held fuel 42 cs = some x →
    ∃ v L, cs = [v] ∧ insS.sl (fun k => k < w.heap.size) w v L ∧ L.bulk + L.size ≤ Rows.uptoBulk x.1 := by
  intro fuel
  induction fuel using Nat.strongRecOn with
  | _ fuel ih =>
  intro cs x h
  rcases DataW.trod_slice Tryz.underlying42 h with ⟨rfl, rfl⟩ | ⟨a, len, cap, elems, rest, n, rfl, rfl, rfl, hb, hl, hm, hlen, hel, hsp, hns⟩
  · exact ⟨_, .nil, rfl, Sl.empty, by simp [Ins.bulk, Ins.size]⟩
  have key : ∀ k, k ≤ len → ∃ L ys, Ins.len L = k ∧ IEnc (fun k => k < w.heap.size) w L ys ∧ (∀ j u, ys[j]? = some u → w.cell? (a.add j) = some u) ∧ L.bulk + L.size ≤ Rows.uptoBulkAll ((elems.take k).map (·.1)) := by
    intro k
    induction k with
    | zero => exact fun _ => ⟨.nil, [], rfl, rfl, fun j u hu => by simp at hu, by simp [Ins.bulk, Ins.size]⟩
    | succ k ihk =>
      intro hk
      obtain ⟨L, ys, h1, h2, h3, h4⟩ := ihk (by omega)
      have he := hel k (by omega)
      have hek : elems[k]? = some (elems[k]'(by omega)) := List.getElem?_eq_getElem (by omega)
      generalize elems[k]'(by omega) = y at hek
      rw [hek, Option.bind_eq_some_iff] at he
      obtain ⟨cs', hc, ht⟩ := he
      obtain ⟨xs, n', rfl, rfl, hl6, hx5, hf⟩ := DataW.trod_struct Tryz.underlying56 ht
      rw [sizeI] at hl6 hc
      have hcc := (World.cells?_some hc).2.2
      match cs', hl6 with
      | [c0, c1, c2, c3, c4, c5], hl6 =>
      match xs, hx5 with
      | [y0, y1, y2, y3, y4], _ =>
      have f0 : DataW.trod enc Tryz.prog w base spare held n' 3 [c0] = some y0 := by simpa [sizeZ] using hf 0 _ rfl
      have f1 : DataW.trod enc Tryz.prog w base spare held n' 9 [c1] = some y1 := by simpa [sizeS] using hf 1 _ rfl
      have f2 : DataW.trod enc Tryz.prog w base spare held n' 54 [c2, c3] = some y2 := by simpa [sizeT] using hf 2 _ rfl
      have f3 : DataW.trod enc Tryz.prog w base spare held n' 9 [c4] = some y3 := by simpa [sizeS] using hf 3 _ rfl
      have f4 : DataW.trod enc Tryz.prog w base spare held n' 42 [c5] = some y4 := by simpa [sizeLI] using hf 4 _ rfl
      obtain ⟨i0, e0, b0⟩ := read_int f0
      obtain ⟨s1, e1, b1⟩ := read_string f1
      obtain ⟨z0, z1, n2, e2, -, g0, g1⟩ := trod_struct2 Tryz.underlying54 f2
      have g0 : DataW.trod enc Tryz.prog w base spare held n2 3 [c2] = some z0 := by simpa [sizeZ] using g0
      have g1 : DataW.trod enc Tryz.prog w base spare held n2 9 [c3] = some z1 := by simpa [sizeS] using g1
      obtain ⟨i2, e3, b3⟩ := read_int g0
      obtain ⟨s3, e4, b4⟩ := read_string g1
      obtain ⟨s4, e5, b5⟩ := read_string f3
      obtain ⟨v, K, e6, hK, b6⟩ := ih n' (by omega) _ _ f4
      injection e0 with e0
      injection e1 with e1
      injection e3 with e3
      injection e4 with e4
      injection e5 with e5
      injection e6 with e6
      subst e0 e1 e3 e4 e5 e6
      refine ⟨L.app (.cons i0 s1 i2 s3 s4 K .nil), ys ++ [.int .i64 i0, .string s1, .int .i64 i2, .string s3, .string s4, c5], ?_, IEnc.app h2 ⟨c5, [], rfl, hK, rfl⟩, cells_more (IEnc.length h2 |>.trans (by rw [h1])) h3 hcc hl6, ?_⟩
      · rw [Ins.len_app, h1]; rfl
      · rw [Ins.blk_app, Ins.size_app, bulkAll_take elems k _ hek]
        simp only [Ins.bulk, Ins.size, Rows.uptoBulk, Rows.uptoBulkAll, List.map_cons, List.map_nil]
        omega
  obtain ⟨L, ys, h1, h2, h3, h4⟩ := key len (Nat.le_refl _)
  refine ⟨_, L, rfl, sl_read (S := insS) (by decide) hl hm h1 h2 h3, ?_⟩
  rw [← hlen, List.take_length] at h4
  simp only [Rows.uptoBulk]
  omega

set_option maxRecDepth 20000 in
theorem read_bls : ∀ (fuel : Nat) (cs : List Value) (x : DataW H × List MemPlace), DataW.trod enc Tryz.prog w base spare held fuel 23 cs = some x →
    ∃ v L, cs = [v] ∧ blsS.sl (fun k => k < w.heap.size) w v L ∧ L.bulk + L.size ≤ Rows.uptoBulk x.1 := by
  intro fuel
  induction fuel using Nat.strongRecOn with
  | _ fuel ih =>
  intro cs x h
  rcases DataW.trod_slice Tryz.underlying23 h with ⟨rfl, rfl⟩ | ⟨a, len, cap, elems, rest, n, rfl, rfl, rfl, hb, hl, hm, hlen, hel, hsp, hns⟩
  · exact ⟨_, .nil, rfl, Sl.empty, by simp [Bls.bulk, Bls.size]⟩
  have key : ∀ k, k ≤ len → ∃ L ys, Bls.len L = k ∧ BEnc (fun k => k < w.heap.size) w L ys ∧ (∀ j u, ys[j]? = some u → w.cell? (a.add j) = some u) ∧ L.bulk + L.size ≤ Rows.uptoBulkAll ((elems.take k).map (·.1)) := by
    intro k
    induction k with
    | zero => exact fun _ => ⟨.nil, [], rfl, rfl, fun j u hu => by simp at hu, by simp [Bls.bulk, Bls.size]⟩
    | succ k ihk =>
      intro hk
      obtain ⟨L, ys, h1, h2, h3, h4⟩ := ihk (by omega)
      have he := hel k (by omega)
      have hek : elems[k]? = some (elems[k]'(by omega)) := List.getElem?_eq_getElem (by omega)
      generalize elems[k]'(by omega) = y at hek
      rw [hek, Option.bind_eq_some_iff] at he
      obtain ⟨cs', hc, ht⟩ := he
      obtain ⟨xs, n', rfl, rfl, hl6, hx5, hf⟩ := DataW.trod_struct Tryz.underlying44 ht
      rw [sizeB] at hl6 hc
      have hcc := (World.cells?_some hc).2.2
      match cs', hl6 with
      | [c0, c1, c2, c3, c4], hl6 =>
      match xs, hx5 with
      | [y0, y1, y2, y3, y4], _ =>
      have f0 : DataW.trod enc Tryz.prog w base spare held n' 3 [c0] = some y0 := by simpa [sizeZ] using hf 0 _ rfl
      have f1 : DataW.trod enc Tryz.prog w base spare held n' 3 [c1] = some y1 := by simpa [sizeZ] using hf 1 _ rfl
      have f2 : DataW.trod enc Tryz.prog w base spare held n' 9 [c2] = some y2 := by simpa [sizeS] using hf 2 _ rfl
      have f3 : DataW.trod enc Tryz.prog w base spare held n' 42 [c3] = some y3 := by simpa [sizeLI] using hf 3 _ rfl
      have f4 : DataW.trod enc Tryz.prog w base spare held n' 23 [c4] = some y4 := by simpa [sizeLB] using hf 4 _ rfl
      obtain ⟨i0, e0, b0⟩ := read_int f0
      obtain ⟨i1, e1, b1⟩ := read_int f1
      obtain ⟨s2, e2, b2⟩ := read_string f2
      obtain ⟨u, M, e3, hM, b3⟩ := read_ins _ _ _ f3
      obtain ⟨v, K, e4, hK, b4⟩ := ih n' (by omega) _ _ f4
      injection e0 with e0
      injection e1 with e1
      injection e2 with e2
      injection e3 with e3
      injection e4 with e4
      subst e0 e1 e2 e3 e4
      refine ⟨L.app (.cons i0 i1 s2 M K .nil), ys ++ [.int .i64 i0, .int .i64 i1, .string s2, c3, c4], ?_, BEnc.app h2 ⟨c3, c4, [], rfl, hM, hK, rfl⟩, cells_more (BEnc.length h2 |>.trans (by rw [h1])) h3 hcc hl6, ?_⟩
      · rw [Bls.len_app, h1]; rfl
      · rw [Bls.blk_app, Bls.size_app, bulkAll_take elems k _ hek]
        simp only [Bls.bulk, Bls.size, Rows.uptoBulk, Rows.uptoBulkAll, List.map_cons, List.map_nil]
        omega
  obtain ⟨L, ys, h1, h2, h3, h4⟩ := key len (Nat.le_refl _)
  refine ⟨_, L, rfl, sl_read (S := blsS) (by decide) hl hm h1 h2 h3, ?_⟩
  rw [← hlen, List.take_length] at h4
  simp only [Rows.uptoBulk]
  omega
set_option maxRecDepth 20000 in
/-- .. as a row's argument -/
theorem open_bls {r : Reach} {b0 : Nat} {v : Value} {d : DataW H} {p : List MemPlace} (hv : Value.okWide Tryz.prog w r b0 23 v) (h : DataW.Trod enc Tryz.prog w base spare held 23 v d p) :
    ∃ a L c, v = .slice a (Bls.len L) c ∧ blsS.sl (fun k => k < w.heap.size) w (.slice a (Bls.len L) c) L ∧ L.bulk + L.size ≤ Rows.uptoBulk d := by
  obtain ⟨a, len, cap, rfl⟩ := okWide_slice Tryz.underlying23 hv
  obtain ⟨fuel, hf⟩ := h
  obtain ⟨v', L, e, hs, hbk⟩ := read_bls _ _ _ hf
  simp only [Value.cells, List.cons.injEq, and_true] at e
  subst e
  obtain ⟨p', c', e⟩ := hs.form
  injection e with e1 e2 e3
  have e2' : len = Bls.len L := e2
  subst e2'
  exact ⟨a, L, cap, rfl, hs, hbk⟩
set_option maxRecDepth 20000 in
theorem open_inl {r : Reach} {b0 : Nat} {v : Value} {d : DataW H} {p : List MemPlace} (hv : Value.okWide Tryz.prog w r b0 42 v) (h : DataW.Trod enc Tryz.prog w base spare held 42 v d p) :
    ∃ a L c, v = .slice a (Ins.len L) c ∧ insS.sl (fun k => k < w.heap.size) w (.slice a (Ins.len L) c) L ∧ L.bulk + L.size ≤ Rows.uptoBulk d := by
  obtain ⟨a, len, cap, rfl⟩ := okWide_slice Tryz.underlying42 hv
  obtain ⟨fuel, hf⟩ := h
  obtain ⟨v', L, e, hs, hbk⟩ := read_ins _ _ _ hf
  simp only [Value.cells, List.cons.injEq, and_true] at e
  subst e
  obtain ⟨p', c', e⟩ := hs.form
  injection e with e1 e2 e3
  have e2' : len = Ins.len L := e2
  subst e2'
  exact ⟨a, L, cap, rfl, hs, hbk⟩
end
end Go.Proofs.YthieinfonomeeaaGreatDoor
