/-
  A list of footnotes that is being made: its row, the rows of uses. Conditions: those typed in each theorem.
-/
import Derived.Test.YtibmemaciahofaaDoorNote
import Derived.Test.YtibmemaciahofaaDoorDocMem
namespace Go.Proofs.YtibmemaciahofaaDoor
open Go.RowKit Doc Note
set_option linter.unusedVariables false

/-- the cells of the first k notes -/
def ncells (L : List Nt) (I U : Nat → Value) : Nat → List Value
  | 0 => []
  | k + 1 => ncells L I U k ++ [.string (L.getD k default).name, I k, U k]
theorem ncells_len (L : List Nt) (I U : Nat → Value) : ∀ k, (ncells L I U k).length = k * 3
  | 0 => rfl
  | k + 1 => by rw [ncells, List.length_append, ncells_len L I U k]; simp only [List.length_cons, List.length_nil]; omega
theorem ncells_get (L : List Nt) (I U : Nat → Value) : ∀ k j, j < k → (ncells L I U k)[j * 3]? = some (.string (L.getD j default).name) ∧ (ncells L I U k)[j * 3 + 1]? = some (I j) ∧ (ncells L I U k)[j * 3 + 2]? = some (U j)
  | 0, j, h => by omega
  | k + 1, j, h => by
    have hl := ncells_len L I U k
    by_cases e : j = k
    · subst e
      rw [ncells]
      refine ⟨?_, ?_, ?_⟩
      · rw [List.getElem?_append_right (by omega), hl, Nat.sub_self]; rfl
      · rw [List.getElem?_append_right (by omega), hl, show j * 3 + 1 - j * 3 = 1 by omega]; rfl
      · rw [List.getElem?_append_right (by omega), hl, show j * 3 + 2 - j * 3 = 2 by omega]; rfl
    · obtain ⟨h1, h2, h3⟩ := ncells_get L I U k j (by omega)
      rw [ncells]
      exact ⟨by rw [List.getElem?_append_left (by omega)]; exact h1, by rw [List.getElem?_append_left (by omega)]; exact h2, by rw [List.getElem?_append_left (by omega)]; exact h3⟩
theorem ncells_congr {L M : List Nt} {I U J V : Nat → Value} : ∀ k, (∀ j, j < k → (L.getD j default).name = (M.getD j default).name ∧ I j = J j ∧ U j = V j) → ncells L I U k = ncells M J V k
  | 0, _ => rfl
  | k + 1, h => by
    obtain ⟨h1, h2, h3⟩ := h k (by omega)
    rw [ncells, ncells, ncells_congr k fun j hj => h j (by omega), h1, h2, h3]
theorem ncells_set1 (L : List Nt) (I U : Nat → Value) (x : Value) : ∀ k m, m < k → (ncells L I U k).set (m * 3 + 1) x = ncells L (fun j => if j = m then x else I j) U k
  | 0, m, h => by omega
  | k + 1, m, h => by
    have hl := ncells_len L I U k
    rw [ncells, ncells]
    by_cases e : m = k
    · subst e
      rw [List.set_append_right _ _ (by omega), hl, show m * 3 + 1 - m * 3 = 1 by omega]
      rw [ncells_congr (J := fun j => if j = m then x else I j) (V := U) (M := L) m fun j hj => ⟨rfl, by rw [if_neg (by omega)], rfl⟩]
      simp
    · rw [List.set_append_left _ _ (by omega), ncells_set1 L I U x k m (by omega), if_neg (fun h => e h.symm)]
theorem ncells_set2 (L : List Nt) (I U : Nat → Value) (x : Value) : ∀ k m, m < k → (ncells L I U k).set (m * 3 + 2) x = ncells L I (fun j => if j = m then x else U j) k
  | 0, m, h => by omega
  | k + 1, m, h => by
    have hl := ncells_len L I U k
    rw [ncells, ncells]
    by_cases e : m = k
    · subst e
      rw [List.set_append_right _ _ (by omega), hl, show m * 3 + 2 - m * 3 = 2 by omega]
      rw [ncells_congr (J := I) (V := fun j => if j = m then x else U j) (M := L) m fun j hj => ⟨rfl, rfl, by rw [if_neg (by omega)]⟩]
      simp
    · rw [List.set_append_left _ _ (by omega), ncells_set2 L I U x k m (by omega), if_neg (fun h => e h.symm)]

def ints (l : List Nat) : List Value := l.map fun (n : Nat) => Value.int .i64 (n : Int)
/-- a list of notes of the call's own: its row, the rows of uses; the elements lie in blocks before B -/
structure NRow (q : Nat → Prop) (B : Nat) (w : World) (v : Value) (L : List Nt) (I U : Nat → Value) : Prop where
  row : w.ownsRow B 42 3 v L.length (ncells L I U L.length)
  low : ∀ b, q b → b < B
  ins : ∀ k, k < L.length → insS.sl q w (I k) (L.getD k default).ins
  use : ∀ k, k < L.length → w.ownsRow B 3 1 (U k) (L.getD k default).uses.length (ints (L.getD k default).uses)
  apart : ∀ k, k < L.length → ∀ g, (U k).ownBlock = some g → v.ownBlock ≠ some g
  apart2 : ∀ j k, j < L.length → k < L.length → j ≠ k → ∀ g, (U j).ownBlock = some g → (U k).ownBlock ≠ some g
theorem NRow.nil (q : Nat → Prop) (B : Nat) (hq : ∀ b, q b → b < B) (w : World) (I U : Nat → Value) : NRow q B w (.slice none 0 0) [] I U :=
  ⟨World.ownsRow_nil _ _ _ _, hq, fun k h => by simp at h, fun k h => by simp at h, fun k h => by simp at h, fun j k h => by simp at h⟩
theorem NRow.on {q : Nat → Prop} {B : Nat} {w w' : World} {v : Value} {L : List Nt} {I U : Nat → Value} (h : NRow q B w v L I U) (hk : ∀ k, k < w.heap.size → w'.heap[k]? = w.heap[k]?) : NRow q B w' v L I U :=
  ⟨own_on h.row (fun k hq => hk k (h.row.lt k hq).2), h.low, fun k hl => insS.sl_on (h.ins k hl) (fun b hb hlt => ⟨hb, hk b hlt⟩), fun k hl => own_on (h.use k hl) (fun g hq => hk g ((h.use k hl).lt g hq).2), h.apart, h.apart2⟩
theorem NRow.below {q : Nat → Prop} {B : Nat} {w w' : World} {v : Value} {L : List Nt} {I U : Nat → Value} (h : NRow q B w v L I U) (hb : Below w.heap.size w w') : NRow q B w' v L I U := h.on fun k hk => hb.block k hk
/-- .. over what turns a block before B that no element lies in -/
theorem NRow.grown {q : Nat → Prop} {B b : Nat} {w w' : World} {v : Value} {L : List Nt} {I U : Nat → Value} (h : NRow q B w v L I U) (hg : w.grownBy w' (some b)) (hb : b < B) (hq : ¬ q b) : NRow q B w' v L I U :=
  ⟨own_on h.row (fun k hq => hg.block k (h.row.lt k hq).2 (fun e => by have := (h.row.lt k hq).1; injection e with e; omega)), h.low,
   fun k hl => insS.sl_on (h.ins k hl) (fun c hc hlt => ⟨hc, hg.block c hlt (fun e => by injection e with e; exact hq (e ▸ hc))⟩),
   fun k hl => own_on (h.use k hl) (fun g hq => hg.block g ((h.use k hl).lt g hq).2 (fun e => by have := ((h.use k hl).lt g hq).1; injection e with e; omega)), h.apart, h.apart2⟩
/-- where the row lies -/
theorem NRow.form {q : Nat → Prop} {B : Nat} {w : World} {v : Value} {L : List Nt} {I U : Nat → Value} (h : NRow q B w v L I U) (hl : 0 < L.length) : ∃ r c, v = .slice (some ⟨r, 0, none⟩) L.length c := by
  rcases h.row.2 with ⟨_, h0⟩ | ⟨g, cap, cur, rfl, _⟩
  · omega
  · exact ⟨g, cap, rfl⟩
theorem NRow.len {q : Nat → Prop} {B : Nat} {w : World} {v : Value} {L : List Nt} {I U : Nat → Value} (h : NRow q B w v L I U) : ∃ p c, v = .slice p L.length c := by
  rcases h.row.2 with ⟨rfl, h0⟩ | ⟨g, cap, cur, rfl, _⟩
  · exact ⟨none, 0, by rw [h0]⟩
  · exact ⟨_, cap, rfl⟩
theorem NRow.cells {q : Nat → Prop} {B r c : Nat} {w : World} {L : List Nt} {I U : Nat → Value} (h : NRow q B w (.slice (some ⟨r, 0, none⟩) L.length c) L I U) {m : Nat} (hm : m < L.length) :
    w.cell? ⟨r, m * 3, none⟩ = some (.string (L.getD m default).name) ∧ w.cell? ⟨r, m * 3 + 1, none⟩ = some (I m) ∧ w.cell? ⟨r, m * 3 + 2, none⟩ = some (U m) ∧ r < w.heap.size ∧ B ≤ r ∧ ∀ j, w.frozen? ⟨r, j, none⟩ = false := by
  obtain ⟨h1, h2, h3⟩ := ncells_get L I U L.length m hm
  have hl := h.row.lt r rfl
  exact ⟨(h.row.cellAt (m * 3) (by omega)).trans h1, (h.row.cellAt (m * 3 + 1) (by omega)).trans h2, (h.row.cellAt (m * 3 + 2) (by omega)).trans h3, hl.2, hl.1, fun j => h.row.frozenAt j⟩
theorem getD_set (L : List Nt) (m k : Nat) (x : Nt) (hm : m < L.length) : (L.set m x).getD k default = if k = m then x else L.getD k default := by
  by_cases e : k = m
  · subst e; simp [List.getD, hm]
  · rw [if_neg e]; simp [List.getD, List.getElem?_set_ne (fun h => e h.symm)]
/-- the elements of a note are written -/
theorem NRow.putIns {q : Nat → Prop} {B r c : Nat} {w : World} {L : List Nt} {I U : Nat → Value} (h : NRow q B w (.slice (some ⟨r, 0, none⟩) L.length c) L I U) {m : Nat} (hm : m < L.length) {x : Value} {k : Ins} (hx : insS.sl q w x k) :
    NRow q B (w.setCell ⟨r, m * 3 + 1, none⟩ x) (.slice (some ⟨r, 0, none⟩) L.length c) (L.set m ⟨(L.getD m default).name, k, (L.getD m default).uses⟩) (fun j => if j = m then x else I j) U := by
  have hB := (h.row.lt r rfl).1
  have hn : ∀ j, ((L.set m ⟨(L.getD m default).name, k, (L.getD m default).uses⟩).getD j default).name = (L.getD j default).name := fun j => by
    rw [getD_set _ _ _ _ hm]; split
    · rename_i e; rw [e]
    · rfl
  have hu : ∀ j, ((L.set m ⟨(L.getD m default).name, k, (L.getD m default).uses⟩).getD j default).uses = (L.getD j default).uses := fun j => by
    rw [getD_set _ _ _ _ hm]; split
    · rename_i e; rw [e]
    · rfl
  have hlen : (L.set m ⟨(L.getD m default).name, k, (L.getD m default).uses⟩).length = L.length := List.length_set
  refine ⟨?_, h.low, ?_, ?_, ?_, ?_⟩
  · have := (h.row.stored (m * 3 + 1) x).1
    rw [ncells_set1 L I U x _ m hm] at this
    rw [hlen, ncells_congr (M := L) (J := fun j => if j = m then x else I j) (V := U) L.length fun j _ => ⟨hn j, rfl, rfl⟩]
    exact this
  · intro j hj
    rw [hlen] at hj
    rw [getD_set _ _ _ _ hm]
    have hq : Kept q q w (w.setCell ⟨r, m * 3 + 1, none⟩ x) := Kept.put (fun b hb => by have := h.low b hb; omega) _ _
    by_cases e : j = m
    · rw [if_pos e, if_pos e]; exact insS.sl_on hx hq
    · rw [if_neg e, if_neg e]; exact insS.sl_on (h.ins j hj) hq
  · intro j hj
    rw [hlen] at hj
    rw [hu]
    exact own_on (h.use j hj) (fun g hg => Below.heap_setCell _ _ _ _ (fun e => h.apart j hj g hg (by rw [e]; rfl)))
  · intro j hj
    rw [hlen] at hj
    exact h.apart j hj
  · intro i j hi hj
    rw [hlen] at hi hj
    exact h.apart2 i j hi hj
/-- a use more is written: the new row of uses is the old one, or a new block -/
theorem NRow.putUse {q : Nat → Prop} {B r c : Nat} {w w' : World} {L : List Nt} {I U : Nat → Value} (h : NRow q B w (.slice (some ⟨r, 0, none⟩) L.length c) L I U) {m : Nat} (hm : m < L.length) {x : Value} {us : List Nat}
    (hk : ∀ k, k < w.heap.size → (U m).ownBlock ≠ some k → w'.heap[k]? = w.heap[k]?) (hx : w'.ownsRow B 3 1 x us.length (ints us)) (hat : ∀ g, x.ownBlock = some g → (U m).ownBlock = some g ∨ w.heap.size ≤ g) :
    (w'.cell? ⟨r, m * 3 + 1, none⟩ = some (I m) ∧ w'.cell? ⟨r, m * 3 + 2, none⟩ = some (U m) ∧ (∀ j, w'.frozen? ⟨r, j, none⟩ = false)) ∧
    NRow q B (w'.setCell ⟨r, m * 3 + 2, none⟩ x) (.slice (some ⟨r, 0, none⟩) L.length c) (L.set m ⟨(L.getD m default).name, (L.getD m default).ins, us⟩) I (fun j => if j = m then x else U j) := by
  have hB := h.row.lt r rfl
  have hrow : w'.heap[r]? = w.heap[r]? := hk r hB.2 (fun e => h.apart m hm r e rfl)
  have hn : ∀ j, ((L.set m ⟨(L.getD m default).name, (L.getD m default).ins, us⟩).getD j default).name = (L.getD j default).name := fun j => by
    rw [getD_set _ _ _ _ hm]; split
    · rename_i e; rw [e]
    · rfl
  have hi : ∀ j, ((L.set m ⟨(L.getD m default).name, (L.getD m default).ins, us⟩).getD j default).ins = (L.getD j default).ins := fun j => by
    rw [getD_set _ _ _ _ hm]; split
    · rename_i e; rw [e]
    · rfl
  have hlen : (L.set m ⟨(L.getD m default).name, (L.getD m default).ins, us⟩).length = L.length := List.length_set
  have hr' := own_on (w' := w') h.row (fun g hg => by injection hg with hg; rw [← hg]; exact hrow)
  obtain ⟨h1, h2, h3⟩ := ncells_get L I U L.length m hm
  refine ⟨⟨(hr'.cellAt (m * 3 + 1) (by omega)).trans h2, (hr'.cellAt (m * 3 + 2) (by omega)).trans h3, fun j => hr'.frozenAt j⟩, ?_, h.low, ?_, ?_, ?_, ?_⟩
  · have := (hr'.stored (m * 3 + 2) x).1
    rw [ncells_set2 L I U x _ m hm] at this
    rw [hlen, ncells_congr (M := L) (J := I) (V := fun j => if j = m then x else U j) L.length fun j _ => ⟨hn j, rfl, rfl⟩]
    exact this
  · intro j hj
    rw [hlen] at hj
    rw [hi]
    refine insS.sl_on (h.ins j hj) (fun b hb hlt => ⟨hb, ?_⟩)
    have hbl := h.low b hb
    rw [Below.heap_setCell _ _ _ _ (show b ≠ r by omega)]
    exact hk b hlt (fun e => by have := ((h.use m hm).lt b e).1; omega)
  · intro j hj
    rw [hlen] at hj
    rw [getD_set _ _ _ _ hm]
    by_cases e : j = m
    · rw [if_pos e, if_pos e]
      exact own_on hx (fun g hg => Below.heap_setCell _ _ _ _ (fun e2 => by
        rcases hat g hg with hg2 | hg2
        · exact h.apart m hm g hg2 (by rw [e2]; rfl)
        · have : g = r := e2
          omega))
    · rw [if_neg e, if_neg e]
      refine own_on (h.use j hj) (fun g hg => ?_)
      rw [Below.heap_setCell _ _ _ _ (fun e2 => h.apart j hj g hg (by rw [e2]; rfl))]
      exact hk g ((h.use j hj).lt g hg).2 (h.apart2 j m hj hm e g hg)
  · intro j hj g hg
    rw [hlen] at hj
    by_cases e : j = m
    · simp only [if_pos e] at hg
      rcases hat g hg with hg2 | hg2
      · exact h.apart m hm g hg2
      · intro e2
        injection e2 with e2
        have e3 : r = g := e2
        omega
    · simp only [if_neg e] at hg
      exact h.apart j hj g hg
  · intro i j hi' hj hne g hg
    rw [hlen] at hi' hj
    by_cases e : i = m
    · simp only [if_pos e] at hg
      rw [if_neg (fun e2 => hne (e.trans e2.symm))]
      rcases hat g hg with hg2 | hg2
      · exact h.apart2 m j hm hj (fun e2 => hne (e.trans e2)) g hg2
      · intro e2
        have := ((h.use j hj).lt g e2).2
        omega
    · simp only [if_neg e] at hg
      by_cases e2 : j = m
      · rw [if_pos e2]
        intro e3
        rcases hat g e3 with hg2 | hg2
        · exact h.apart2 i m hi' hm e g hg hg2
        · have := ((h.use i hi').lt g hg).2
          omega
      · rw [if_neg e2]; exact h.apart2 i j hi' hj hne g hg
/-- a note more -/
theorem NRow.push {q : Nat → Prop} {B : Nat} {w w' : World} {v v' : Value} {L : List Nt} {I U : Nat → Value} (h : NRow q B w v L I U) (hB : B ≤ w.heap.size) {t : ByteArray} (hr : w'.ownsRow B 42 3 v' (L.length + 1) (ncells L I U L.length ++ [.string t, .slice none 0 0, .slice none 0 0]))
    (hg : w.grownBy w' v.ownBlock) (hat : v'.ownBlock = v.ownBlock ∨ v'.ownBlock = some w.heap.size) :
    NRow q B w' v' (L ++ [⟨t, .nil, []⟩]) (fun j => if j = L.length then .slice none 0 0 else I j) (fun j => if j = L.length then .slice none 0 0 else U j) := by
  have hlen : (L ++ [(⟨t, .nil, []⟩ : Nt)]).length = L.length + 1 := by simp
  have hlast : (L ++ [(⟨t, .nil, []⟩ : Nt)]).getD L.length default = ⟨t, .nil, []⟩ := by simp [List.getD]
  have hold : ∀ j, j < L.length → (L ++ [(⟨t, .nil, []⟩ : Nt)]).getD j default = L.getD j default := fun j hj => by simp [List.getD, List.getElem?_append_left hj]
  have hvl := h.row.lt
  refine ⟨?_, h.low, ?_, ?_, ?_, ?_⟩
  · rw [hlen, ncells, hlast, ncells_congr (M := L) (J := I) (V := U) L.length fun j hj => ⟨by rw [hold j hj], by rw [if_neg (by omega)], by rw [if_neg (by omega)]⟩]
    simpa using hr
  · intro j hj
    rw [hlen] at hj
    by_cases e : j = L.length
    · rw [e, hlast, if_pos rfl]; exact Sl.empty
    · rw [hold j (by omega), if_neg e]
      exact insS.sl_on (h.ins j (by omega)) (fun b hb hlt => ⟨hb, hg.block b hlt (fun e2 => by have := hvl b e2.symm; have := h.low b hb; omega)⟩)
  · intro j hj
    rw [hlen] at hj
    by_cases e : j = L.length
    · rw [e, hlast, if_pos rfl]; exact World.ownsRow_nil _ _ _ _
    · rw [hold j (by omega), if_neg e]
      exact own_on (h.use j (by omega)) (fun g hq => hg.block g ((h.use j (by omega)).lt g hq).2 (fun e2 => h.apart j (by omega) g hq e2.symm))
  · intro j hj g hq
    rw [hlen] at hj
    by_cases e : j = L.length
    · simp only [if_pos e] at hq; cases hq
    · simp only [if_neg e] at hq
      rcases hat with ha | ha
      · rw [ha]; exact h.apart j (by omega) g hq
      · rw [ha]; intro e2; injection e2 with e2; have := ((h.use j (by omega)).lt g hq).2; omega
  · intro i j hi hj hne g hq
    rw [hlen] at hi hj
    by_cases e : i = L.length
    · simp only [if_pos e] at hq; cases hq
    · simp only [if_neg e] at hq
      by_cases e2 : j = L.length
      · rw [if_pos e2]; intro e3; cases e3
      · rw [if_neg e2]; exact h.apart2 i j (by omega) (by omega) hne g hq
theorem infoN : (Tryd.prog.info? 42).map (fun i => (i.zero, i.size, i.bytes)) = some (some (.agg #[.string ByteArray.empty, .slice none 0 0, .slice none 0 0]), 3, 64) := by kernel_rfl
theorem infoZ : (Tryd.prog.info? 3).map (fun i => (i.zero, i.size, i.bytes)) = some (some (.int .i64 0), 1, 8) := by kernel_rfl
/-- a note more, at the append -/
theorem append_note (w : World) {ops : Array Oper} {rest : List Oper} {o : Oper} {a : Act} {Q : Exit → Act → World → Prop} (hgd : o.guard = none) (s x : Operand)
    (ho : o.op = .call { callee := .builtin .append, args := #[s, x], argTypes := #[39, 39] })
    {q : Nat → Prop} {B : Nat} {v : Value} {L : List Nt} {I U : Nat → Value} {t : ByteArray} (h : NRow q B w v L I U) (hs : a.eval s = v) {sv : Value} (hsrc : Src w sv 1 [.string t, .slice none 0 0, .slice none 0 0]) (hx : a.eval x = sv) (hl : L.length ≤ 1000000) (hB : B ≤ w.heap.size)
    (hK : ∀ v' w', NRow q B w' v' (L ++ [⟨t, .nil, []⟩]) (fun j => if j = L.length then .slice none 0 0 else I j) (fun j => if j = L.length then .slice none 0 0 else U j) → w.grownBy w' v.ownBlock → (∀ g, v.ownBlock = some g → B ≤ g) → wpList Tryd.prog ops Q rest (a.put o.dst v') w') : wpList Tryd.prog ops Q (o :: rest) a w := by
  obtain ⟨i, hi, hz, hsize, hby⟩ := info_parts infoN
  refine wpList_plain hgd fun K hK' => ?_
  obtain ⟨v', w', hr, h1, h2, h3⟩ := run_append_src (P := Tryd.prog) w 39 o.type B 42 i _ 3 64 Tryd.underlying39 hi hz hsize hby rfl (by decide) v L.length _ h.row sv 1 _ hsrc rfl (by
    intro u hu
    simp only [List.mem_cons, List.not_mem_nil, or_false] at hu
    rcases hu with rfl | rfl | rfl <;> rfl) (by unfold maxLen; omega) (by omega) hB
  unfold Oper.wp execOp
  simp only [ho, resolve, invoke, builtin, Sem.run_bind, Sem.run_pure, Result.andThen_ok, List.map_toArray, List.map_cons, List.map_nil, hs, hx, hr]
  exact hK' _ _ (hK v' w' (h.push hB h1 h2 h3) h2 (fun g hg => (h.row.lt g hg).1))
/-- a use more, at the append -/
theorem append_use (w : World) {ops : Array Oper} {rest : List Oper} {o : Oper} {a : Act} {Q : Exit → Act → World → Prop} (hgd : o.guard = none) (s x : Operand)
    (ho : o.op = .call { callee := .builtin .append, args := #[s, x], argTypes := #[26, 26] })
    {B : Nat} {v : Value} {us ys : List Nat} (h : w.ownsRow B 3 1 v us.length (ints us)) (hs : a.eval s = v) {sv : Value} (hsrc : Src w sv ys.length (ints ys)) (hx : a.eval x = sv) (nn : Nat) (hnn : us.length + ys.length = nn) (hl : nn ≤ 1000000000) (hB : B ≤ w.heap.size)
    (hK : ∀ p c w', w'.ownsRow B 3 1 (.slice p nn c) (us ++ ys).length (ints (us ++ ys)) → w.grownBy w' v.ownBlock → ((Value.slice p nn c).ownBlock = v.ownBlock ∨ (Value.slice p nn c).ownBlock = some w.heap.size) → wpList Tryd.prog ops Q rest (a.put o.dst (.slice p nn c)) w') : wpList Tryd.prog ops Q (o :: rest) a w := by
  obtain ⟨i, hi, hz, hsize, hby⟩ := info_parts infoZ
  refine wpList_plain hgd fun K hK' => ?_
  have hone : ∀ u ∈ ints ys, u.oneCell' = true := by
    intro u hu
    simp only [ints, List.mem_map] at hu
    obtain ⟨n, _, rfl⟩ := hu
    rfl
  obtain ⟨v', w', hr, h1, h2, h3⟩ := run_append_src (P := Tryd.prog) w 26 o.type B 3 i _ 1 8 Tryd.underlying26 hi hz hsize hby rfl (by decide) v us.length _ h sv ys.length _ hsrc (by simp [ints]) hone (by unfold maxLen; omega) (by omega) hB
  unfold Oper.wp execOp
  simp only [ho, resolve, invoke, builtin, Sem.run_bind, Sem.run_pure, Result.andThen_ok, List.map_toArray, List.map_cons, List.map_nil, hs, hx, hr]
  obtain ⟨p, c, rfl⟩ : ∃ p c, v' = .slice p nn c := by
    rcases h1.2 with ⟨rfl, h0⟩ | ⟨g, cap, cur, rfl, _⟩
    · exact ⟨none, 0, by rw [show nn = 0 by omega]⟩
    · exact ⟨_, cap, by rw [hnn]⟩
  exact hK' _ _ (hK p c w' (by simpa [ints] using h1) h2 h3)
end Go.Proofs.YtibmemaciahofaaDoor
