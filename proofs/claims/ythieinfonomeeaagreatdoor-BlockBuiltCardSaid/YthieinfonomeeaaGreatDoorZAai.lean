/-
  The claim's own texts, packed. Conditions: those typed in each theorem.
-/
import Derived.Test.YthieinfonomeeaaGreatDoorZAah
import Derived.Laws.MakeOwn
namespace Go.Proofs.YthieinfonomeeaaGreatDoor
open Go.RowKit
set_option linter.unusedVariables false
def bys (l : List UInt8) : List Value := l.map fun c => Value.int .u8 (c.toNat : Int)
theorem bys_len (l : List UInt8) : (bys l).length = l.length := by simp [bys]
theorem bys_app (a b : List UInt8) : bys (a ++ b) = bys a ++ bys b := by simp [bys]
def BOwn (B : Nat) (w : World) (v : Value) (l : List UInt8) : Prop := w.ownsRow B 5 1 v l.length (bys l)
theorem BOwn.nil (B : Nat) (w : World) : BOwn B w (.slice none 0 0) [] := World.ownsRow_nil _ _ _ _
theorem BOwn.form {B : Nat} {w : World} {v : Value} {l : List UInt8} (h : BOwn B w v l) : ∃ p c, v = .slice p l.length c := by
 rcases h.2 with ⟨rfl, h0⟩ | ⟨g, cap, cur, rfl, _⟩
 ·exact ⟨none, 0, by rw [h0]⟩
 ·exact ⟨_, cap, rfl⟩
theorem BOwn.on {B : Nat} {w w' : World} {v : Value} {l : List UInt8} (h : BOwn B w v l) (hk : ∀ k, v.ownBlock = some k → w'.heap[k]? = w.heap[k]?) : BOwn B w' v l := own_on h hk
theorem BOwn.below {B : Nat} {w w' : World} {v : Value} {l : List UInt8} (h : BOwn B w v l) (hb : Below w.heap.size w w') : BOwn B w' v l := h.on fun k hk => hb.block k (ownsRow_lt h k hk)
where ownsRow_lt {B : Nat} {w : World} {v : Value} {l : List UInt8} (h : BOwn B w v l) (k : Nat) (hk : v.ownBlock = some k) : k < w.heap.size := (World.ownsRow.lt h k hk).2
theorem BOwn.bin {B : Nat} {w : World} {v : Value} {l : List UInt8} (h : BOwn B w v l) {g : Nat} (hg : v.ownBlock = some g) : BIn w g l := by
 have hl := World.ownsRow.lt h g hg
 have hA := own_at (g := g) h hg
 refine ⟨hl.2, fun j hj => ⟨?_, ?_⟩⟩
 ·have := hA j (.int .u8 ((l[j]).toNat : Int)) (by simp [bys, hj])
  rwa [Nat.zero_add] at this
 ·rcases h.2 with ⟨rfl, h0⟩ | ⟨g', cap, cur, rfl, hb, hgg, rest⟩
  ·cases hg
  ·injection hg with hg
   have hg' : g' = g := hg
   subst hg'
   unfold World.frozen?
   rw [hgg]
   simp
theorem BOwn.text {B : Nat} {w : World} {v : Value} {l : List UInt8} (h : BOwn B w v l) : (convert 69 9 v).run Tryz.prog w = .ok (.string ⟨l.toArray⟩) w := by
 have hb := fun g => h.bin (g := g)
 rcases h.2 with ⟨rfl, h0⟩ | ⟨g, cap, cur, rfl, _⟩
 ·have : l = [] := List.eq_nil_of_length_eq_zero h0
  subst this
  exact conv_nil w 0
 ·exact conv_from (hb g rfl) _ cap rfl
theorem BOwn.last {B : Nat} {w : World} {p : Option Addr} {n c : Nat} {l : List UInt8} (h : BOwn B w (.slice p n c) l) {m : Nat} (hm : l.length = m + 1) : ∃ g z, p = some ⟨g, 0, none⟩ ∧ g < w.heap.size ∧ w.cell? ⟨g, m, none⟩ = some (.int .u8 ((z.toNat : Nat) : Int)) ∧ l.getLast? = some z := by
 have hb := fun g => h.bin (g := g)
 rcases h.2 with ⟨h1, h0⟩ | ⟨g, cap, cur, h1, _⟩
 ·omega
 ·injection h1 with e1 e2 e3
  subst e1
  have hbg := hb g rfl
  exact ⟨g, l[m], rfl, hbg.1, (hbg.2 m (by omega)).1, by rw [List.getLast?_eq_getElem?, show l.length - 1 = m by omega]; exact List.getElem?_eq_getElem (by omega)⟩
theorem infoU : (Tryz.prog.info? 5).map (fun i => (i.zero, i.size, i.bytes)) = some (some (.int .u8 0), 1, 1) := by kernel_rfl
theorem append_bytes (w : World) {ops : Array Oper} {rest : List Oper} {o : Oper} {a : Act} {Q : Exit → Act → World → Prop} (hgd : o.guard = none) (s x : Operand)
  (ho : o.op = .call { callee := .builtin .append, args := #[s, x], argTypes := #[69, 69] })
  {B : Nat} {v : Value} {l ys : List UInt8} (h : BOwn B w v l) (hs : a.eval s = v) {sv : Value} (hsrc : Src w sv ys.length (bys ys)) (hx : a.eval x = sv) (hl : l.length + ys.length ≤ 4000000000) (hB : B ≤ w.heap.size)
  (hK : ∀ v' w', BOwn B w' v' (l ++ ys) → w.grownBy w' v.ownBlock → (v'.ownBlock = v.ownBlock ∨ v'.ownBlock = some w.heap.size) → wpList Tryz.prog ops Q rest (a.put o.dst v') w') : wpList Tryz.prog ops Q (o :: rest) a w := by
 obtain ⟨i, hi, hz, hsize, hby⟩ := info_parts infoU
 refine wpList_plain hgd fun K hK' => ?_
 have hone : ∀ u ∈ bys ys, u.oneCell' = true := by
  intro u hu
  simp only [bys, List.mem_map] at hu
  obtain ⟨n, _, rfl⟩ := hu
  rfl
 obtain ⟨v', w', hr, h1, h2, h3⟩ := run_append_src (P := Tryz.prog) w 69 o.type B 5 i _ 1 1 Tryz.underlying69 hi hz hsize hby rfl (by decide) v l.length _ h sv ys.length _ hsrc (by simp [bys]) hone (by unfold maxLen; omega) (by omega) hB
 unfold Oper.wp execOp
 simp only [ho, resolve, invoke, builtin, Sem.run_bind, Sem.run_pure, Result.andThen_ok, List.map_toArray, List.map_cons, List.map_nil, hs, hx, hr]
 exact hK' _ _ (hK v' w' (by unfold BOwn; rw [List.length_append, bys_app]; exact h1) h2 h3)
theorem src_byte (w : World) (ty : TypeId) (c : UInt8) : Src (w.alloc (.cells #[.int .u8 (c.toNat : Int)] ty)) (.slice (some ⟨w.heap.size, 0, none⟩) 1 1) [c].length (bys [c]) := Src.new w ty #[.int .u8 (c.toNat : Int)] 1 1
theorem make_bytes (w : World) (n : Nat) (hn : n ≤ 1000000000) : ∃ w', (Instr.makeSlice 69 (.int .i64 0) (.int .i64 (n : Int))).run Tryz.prog w = .ok (.slice (some ⟨w.heap.size, 0, none⟩) 0 n) w' ∧
  BOwn w.heap.size w' (.slice (some ⟨w.heap.size, 0, none⟩) 0 n) [] ∧ Below w.heap.size w w' := by
 obtain ⟨i, hi, hz, hsize, hby⟩ := info_parts infoU
 obtain ⟨w', h1, h2, h3⟩ := run_make_own (P := Tryz.prog) w w.heap.size 69 5 i _ 1 Tryz.underlying69 hi hz hsize .i64 .i64 n (by rw [hby]; omega) (by unfold maxLen; omega) (Nat.le_refl _)
 exact ⟨w', h1, h2, (Below.refl _ _).grown h3 (Nat.le_refl _) (fun g hg => by cases hg)⟩
theorem below_byte {w w1 w2 : World} {B : Nat} {v : Value} {l : List UInt8} (h : Below B w w1) (ho : BOwn B w1 v l) (hg : w1.grownBy w2 v.ownBlock) (hB : B ≤ w1.heap.size) : Below B w w2 :=
 h.grown hg hB (fun g hq => (World.ownsRow.lt ho g hq).1)
end Go.Proofs.YthieinfonomeeaaGreatDoor
namespace Go.Proofs.YthieinfonomeeaaGreatDoor
open Go.RowKit
set_option linter.unusedVariables false
theorem own_set {w : World} {B e size n : Nat} {v : Value} {xs : List Value} (h : w.ownsRow B e size v n xs) {g : Nat} (hg : v.ownBlock = some g) (i : Nat) (u : Value) (hi : i < n * size) : (w.setCell ⟨g, i, none⟩ u).ownsRow B e size v n (xs.set i u) := by
 refine ⟨by rw [List.length_set]; exact h.1, ?_⟩
 rcases h.2 with ⟨rfl, _⟩ | ⟨g', cap, cur, rfl, hb, hgg, h1, h2, h3, h4⟩
 ·cases hg
 ·injection hg with hg
  have hg' : g' = g := hg
  subst hg'
  refine .inr ⟨g', cap, cur.setIfInBounds i u, rfl, hb, (Known.put (w := w) hgg i u), h1, h2, by rw [Array.size_setIfInBounds]; exact h3, ?_⟩
  rw [Array.toList_setIfInBounds, List.take_set, h4]
theorem own_block {w : World} {B e size n : Nat} {v : Value} {xs : List Value} (h : w.ownsRow B e size v n xs) (hn : 0 < n) : ∃ g cap, v = .slice (some ⟨g, 0, none⟩) n cap ∧ v.ownBlock = some g ∧ B ≤ g ∧ g < w.heap.size ∧ (∀ j u, xs[j]? = some u → w.cell? ⟨g, j, none⟩ = some u) ∧ (∀ j, w.frozen? ⟨g, j, none⟩ = false) := by
 have hl := fun k hk => (World.ownsRow.lt h k hk).2
 have hA := fun g => own_at (g := g) h
 rcases h.2 with ⟨rfl, h0⟩ | ⟨g, cap, cur, rfl, hb, hgg, h1, h2, h3, h4⟩
 ·omega
 ·refine ⟨g, cap, rfl, rfl, hb, hl g rfl, fun j u hu => ?_, fun j => ?_⟩
  ·have := hA g rfl j u hu
   rwa [Nat.zero_add] at this
  ·unfold World.frozen?
   rw [hgg]; simp
def strs (l : List (List UInt8)) : List Value := l.map fun x => Value.string ⟨x.toArray⟩
theorem strs_app (a b : List (List UInt8)) : strs (a ++ b) = strs a ++ strs b := by simp [strs]
def SOwn (B : Nat) (w : World) (v : Value) (l : List (List UInt8)) : Prop := w.ownsRow B 9 1 v l.length (strs l)
theorem SOwn.below {B : Nat} {w w' : World} {v : Value} {l : List (List UInt8)} (h : SOwn B w v l) (hb : Below w.heap.size w w') : SOwn B w' v l := own_on h fun k hk => hb.block k (World.ownsRow.lt h k hk).2
theorem SOwn.block {B : Nat} {w : World} {v : Value} {l : List (List UInt8)} (h : SOwn B w v l) (hn : 0 < l.length) : ∃ g cap, v = .slice (some ⟨g, 0, none⟩) l.length cap ∧ v.ownBlock = some g ∧ B ≤ g ∧ g < w.heap.size ∧ (∀ j (hj : j < l.length), w.cell? ⟨g, j, none⟩ = some (.string ⟨l[j].toArray⟩)) ∧ (∀ j, w.frozen? ⟨g, j, none⟩ = false) := by
 obtain ⟨g, cap, h1, h2, h3, h4, h5, h6⟩ := own_block h hn
 exact ⟨g, cap, h1, h2, h3, h4, fun j hj => h5 j _ (by simp [strs, hj]), h6⟩
theorem SOwn.one (w : World) (x : List UInt8) : SOwn w.heap.size (w.alloc (.cells #[.string ⟨x.toArray⟩] 9)) (.slice (some ⟨w.heap.size, 0, none⟩) 1 1) [x] := by
 refine ⟨rfl, .inr ⟨w.heap.size, 1, #[.string ⟨x.toArray⟩], rfl, Nat.le_refl _, Known.made w _ _, Nat.le_refl _, by decide, rfl, rfl⟩⟩
theorem SOwn.put {B : Nat} {w : World} {v : Value} {l : List (List UInt8)} (h : SOwn B w v l) {g : Nat} (hg : v.ownBlock = some g) (i : Nat) (x : List UInt8) (hi : i < l.length) : SOwn B (w.setCell ⟨g, i, none⟩ (.string ⟨x.toArray⟩)) v (l.set i x) := by
 have := own_set h hg i (.string ⟨x.toArray⟩) (by omega)
 unfold SOwn
 rw [List.length_set]
 have e : strs (l.set i x) = (strs l).set i (.string ⟨x.toArray⟩) := by simp [strs, List.map_set]
 rw [e]; exact this
theorem infoS : (Tryz.prog.info? 9).map (fun i => (i.zero, i.size, i.bytes)) = some (some (.string ⟨#[]⟩), 1, 16) := by kernel_rfl
theorem append_strs (w : World) {ops : Array Oper} {rest : List Oper} {o : Oper} {a : Act} {Q : Exit → Act → World → Prop} (hgd : o.guard = none) (s x : Operand)
  (ho : o.op = .call { callee := .builtin .append, args := #[s, x], argTypes := #[34, 34] })
  {B : Nat} {v : Value} {l ys : List (List UInt8)} (h : SOwn B w v l) (hs : a.eval s = v) {sv : Value} (hsrc : Src w sv ys.length (strs ys)) (hx : a.eval x = sv) (hl : l.length + ys.length ≤ 4000000000) (hB : B ≤ w.heap.size)
  (hK : ∀ v' w', SOwn B w' v' (l ++ ys) → w.grownBy w' v.ownBlock → (v'.ownBlock = v.ownBlock ∨ v'.ownBlock = some w.heap.size) → wpList Tryz.prog ops Q rest (a.put o.dst v') w') : wpList Tryz.prog ops Q (o :: rest) a w := by
 obtain ⟨i, hi, hz, hsize, hby⟩ := info_parts infoS
 refine wpList_plain hgd fun K hK' => ?_
 have hone : ∀ u ∈ strs ys, u.oneCell' = true := by
  intro u hu
  simp only [strs, List.mem_map] at hu
  obtain ⟨n, _, rfl⟩ := hu
  rfl
 obtain ⟨v', w', hr, h1, h2, h3⟩ := run_append_src (P := Tryz.prog) w 34 o.type B 9 i _ 1 16 Tryz.underlying34 hi hz hsize hby rfl (by decide) v l.length _ h sv ys.length _ hsrc (by simp [strs]) hone (by unfold maxLen; omega) (by omega) hB
 unfold Oper.wp execOp
 simp only [ho, resolve, invoke, builtin, Sem.run_bind, Sem.run_pure, Result.andThen_ok, List.map_toArray, List.map_cons, List.map_nil, hs, hx, hr]
 exact hK' _ _ (hK v' w' (by unfold SOwn; rw [List.length_append, strs_app]; exact h1) h2 h3)
theorem below_strs {w w1 w2 : World} {B : Nat} {v : Value} {l : List (List UInt8)} (h : Below B w w1) (ho : SOwn B w1 v l) (hg : w1.grownBy w2 v.ownBlock) (hB : B ≤ w1.heap.size) : Below B w w2 :=
 h.grown hg hB (fun g hq => (World.ownsRow.lt ho g hq).1)
theorem src_str (w : World) (ty : TypeId) (x : List UInt8) : Src (w.alloc (.cells #[.string ⟨x.toArray⟩] ty)) (.slice (some ⟨w.heap.size, 0, none⟩) 1 1) [x].length (strs [x]) := Src.new w ty #[.string ⟨x.toArray⟩] 1 1
end Go.Proofs.YthieinfonomeeaaGreatDoor
namespace Go.Proofs.YthieinfonomeeaaGreatDoor
open Go.RowKit
set_option linter.unusedVariables false
def nums (l : List Int) : List Value := l.map fun x => Value.int .i64 x
theorem nums_app (a b : List Int) : nums (a ++ b) = nums a ++ nums b := by simp [nums]
def NOwn (B : Nat) (w : World) (v : Value) (l : List Int) : Prop := w.ownsRow B 3 1 v l.length (nums l)
theorem NOwn.nil (B : Nat) (w : World) : NOwn B w (.slice none 0 0) [] := World.ownsRow_nil _ _ _ _
theorem NOwn.below {B : Nat} {w w' : World} {v : Value} {l : List Int} (h : NOwn B w v l) (hb : Below w.heap.size w w') : NOwn B w' v l := own_on h fun k hk => hb.block k (World.ownsRow.lt h k hk).2
theorem NOwn.form {B : Nat} {w : World} {v : Value} {l : List Int} (h : NOwn B w v l) : ∃ p c, v = .slice p l.length c := by
 rcases h.2 with ⟨rfl, h0⟩ | ⟨g, cap, cur, rfl, _⟩
 ·exact ⟨none, 0, by rw [h0]⟩
 ·exact ⟨_, cap, rfl⟩
theorem NOwn.block {B : Nat} {w : World} {v : Value} {l : List Int} (h : NOwn B w v l) (hn : 0 < l.length) : ∃ g cap, v = .slice (some ⟨g, 0, none⟩) l.length cap ∧ v.ownBlock = some g ∧ B ≤ g ∧ g < w.heap.size ∧ (∀ j (hj : j < l.length), w.cell? ⟨g, j, none⟩ = some (.int .i64 l[j])) ∧ (∀ j, w.frozen? ⟨g, j, none⟩ = false) := by
 obtain ⟨g, cap, h1, h2, h3, h4, h5, h6⟩ := own_block h hn
 exact ⟨g, cap, h1, h2, h3, h4, fun j hj => h5 j _ (by simp [nums, hj]), h6⟩
theorem infoN : (Tryz.prog.info? 3).map (fun i => (i.zero, i.size, i.bytes)) = some (some (.int .i64 0), 1, 8) := by kernel_rfl
theorem append_nums (w : World) {ops : Array Oper} {rest : List Oper} {o : Oper} {a : Act} {Q : Exit → Act → World → Prop} (hgd : o.guard = none) (s x : Operand)
  (ho : o.op = .call { callee := .builtin .append, args := #[s, x], argTypes := #[29, 29] })
  {B : Nat} {v : Value} {l ys : List Int} (h : NOwn B w v l) (hs : a.eval s = v) {sv : Value} (hsrc : Src w sv ys.length (nums ys)) (hx : a.eval x = sv) (hl : l.length + ys.length ≤ 4000000000) (hB : B ≤ w.heap.size)
  (hK : ∀ v' w', NOwn B w' v' (l ++ ys) → w.grownBy w' v.ownBlock → (v'.ownBlock = v.ownBlock ∨ v'.ownBlock = some w.heap.size) → wpList Tryz.prog ops Q rest (a.put o.dst v') w') : wpList Tryz.prog ops Q (o :: rest) a w := by
 obtain ⟨i, hi, hz, hsize, hby⟩ := info_parts infoN
 refine wpList_plain hgd fun K hK' => ?_
 have hone : ∀ u ∈ nums ys, u.oneCell' = true := by
  intro u hu
  simp only [nums, List.mem_map] at hu
  obtain ⟨n, _, rfl⟩ := hu
  rfl
 obtain ⟨v', w', hr, h1, h2, h3⟩ := run_append_src (P := Tryz.prog) w 29 o.type B 3 i _ 1 8 Tryz.underlying29 hi hz hsize hby rfl (by decide) v l.length _ h sv ys.length _ hsrc (by simp [nums]) hone (by unfold maxLen; omega) (by omega) hB
 unfold Oper.wp execOp
 simp only [ho, resolve, invoke, builtin, Sem.run_bind, Sem.run_pure, Result.andThen_ok, List.map_toArray, List.map_cons, List.map_nil, hs, hx, hr]
 exact hK' _ _ (hK v' w' (by unfold NOwn; rw [List.length_append, nums_app]; exact h1) h2 h3)
theorem below_nums {w w1 w2 : World} {B : Nat} {v : Value} {l : List Int} (h : Below B w w1) (ho : NOwn B w1 v l) (hg : w1.grownBy w2 v.ownBlock) (hB : B ≤ w1.heap.size) : Below B w w2 :=
 h.grown hg hB (fun g hq => (World.ownsRow.lt ho g hq).1)
theorem src_num (w : World) (ty : TypeId) (x : Int) : Src (w.alloc (.cells #[.int .i64 x] ty)) (.slice (some ⟨w.heap.size, 0, none⟩) 1 1) [x].length (nums [x]) := Src.new w ty #[.int .i64 x] 1 1
end Go.Proofs.YthieinfonomeeaaGreatDoor
