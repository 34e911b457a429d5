/-
  Entries in memory; the maps of the call's own that Contents keeps. Conditions: those typed in each theorem.
-/
import Derived.Test.YtibmemaciahofaaDoorCont
import Derived.Test.YtibmemaciahofaaDoorDocMem
import Derived.Maps.OwnOps
import Derived.Maps.OwnSet
import Derived.Maps.Views
import Derived.StringKeys
namespace Go.Proofs.YtibmemaciahofaaDoor
open Go.RowKit Doc Cont Go.Maps Go.WideMaps
set_option linter.unusedVariables false

/-- the cells of entries -/
def EEnc : List Ent → List Value
  | [] => []
  | e :: r => .int .i64 e.lv :: .string e.num :: .string e.txt :: .string e.anc :: EEnc r
theorem EEnc_app : ∀ A B : List Ent, EEnc (A ++ B) = EEnc A ++ EEnc B
  | [], B => rfl
  | e :: r, B => by simp only [List.cons_append, EEnc, EEnc_app r B]
theorem EEnc_len : ∀ A : List Ent, (EEnc A).length = A.length * 4
  | [] => rfl
  | e :: r => by simp only [EEnc, List.length_cons, EEnc_len r]; omega
theorem EEnc_one : ∀ A : List Ent, ∀ u ∈ EEnc A, u.oneCell' = true
  | [], u, hu => by cases hu
  | e :: r, u, hu => by
    simp only [EEnc, List.mem_cons] at hu
    rcases hu with rfl | rfl | rfl | rfl | hu
    · rfl
    · rfl
    · rfl
    · rfl
    · exact EEnc_one r u hu
theorem EEnc_drop : ∀ (A : List Ent) (i : Nat), (EEnc A).drop (i * 4) = EEnc (A.drop i)
  | A, 0 => by simp
  | [], i + 1 => by simp [EEnc]
  | e :: r, i + 1 => by
    rw [show (i + 1) * 4 = i * 4 + 4 by omega, ← List.drop_drop, List.drop_succ_cons, ← EEnc_drop r i]
    simp only [EEnc]
    rw [List.drop_drop, show i * 4 + 4 = i * 4 + 3 + 1 by omega, List.drop_succ_cons, show i * 4 + 3 = i * 4 + 2 + 1 by omega, List.drop_succ_cons, show i * 4 + 2 = i * 4 + 1 + 1 by omega, List.drop_succ_cons, List.drop_succ_cons]
def entS : Shp (List Ent) := { len := List.length, app := (· ++ ·), sz := 4, enc := fun _ _ L xs => xs = EEnc L, nil := [], enc_nil := fun _ _ => rfl, len_nil := rfl, nil_of := fun _ => List.eq_nil_of_length_eq_zero, on := fun _ h => h, join := fun h k => by subst h k; exact (EEnc_app _ _).symm, length := fun h => by subst h; exact EEnc_len _, ones := fun h => by subst h; exact EEnc_one _, len_app := fun A B => List.length_append }
theorem tyE : Typ Tryd.prog 32 54 4 56 :=
  Typ.mk' (z := .agg #[.int .i64 0, .string ByteArray.empty, .string ByteArray.empty, .string ByteArray.empty]) Tryd.underlying32 (by kernel_rfl) rfl (by decide)

/-- a slice of entries that is read: its address -/
def Ents (w : World) (p : Option Addr) (L : List Ent) : Prop := L = [] ∨ ∃ b o, p = some ⟨b, o, none⟩ ∧ b < w.heap.size ∧ At w b o (EEnc L)
theorem Ents.of {q : Nat → Prop} {w : World} {p : Option Addr} {n c : Nat} {L : List Ent} (h : entS.sl q w (.slice p n c) L) : Ents w p L ∧ n = L.length ∧ n ≤ c ∧ c ≤ 9223372036854775807 := by
  obtain ⟨h1, h2, h3, h4⟩ := Shp.rest_start h
  refine ⟨?_, h2, h3, h4⟩
  rcases h1 with h1 | ⟨b, o, ys, h5, _, h7, h8, h9⟩
  · exact .inl h1
  · rw [Nat.zero_mul, List.drop_zero] at h9
    have h9' : ys = EEnc L := h9
    subst h9'
    exact .inr ⟨b, o, h5, h7, h8⟩
theorem Ents.below {w w' : World} {p : Option Addr} {L : List Ent} (h : Ents w p L) (hb : Below w.heap.size w w') : Ents w' p L := by
  rcases h with h | ⟨b, o, h1, h2, h3⟩
  · exact .inl h
  · exact .inr ⟨b, o, h1, Nat.lt_of_lt_of_le h2 hb.size, h3.below h2 hb⟩
theorem Ents.take {w : World} {p : Option Addr} {L : List Ent} (h : Ents w p L) (i : Nat) : Ents w p (L.take i) := by
  rcases h with h | ⟨b, o, h1, h2, h3⟩
  · exact .inl (by rw [h]; exact List.take_nil)
  · refine .inr ⟨b, o, h1, h2, fun j u hu => h3 j u ?_⟩
    have : EEnc L = EEnc (L.take i) ++ EEnc (L.drop i) := by rw [← EEnc_app, List.take_append_drop]
    rw [this, List.getElem?_append_left (List.getElem?_eq_some_iff.1 hu).1]
    exact hu
/-- the cells of one entry -/
theorem Ents.at {w : World} {p : Option Addr} {L : List Ent} (h : Ents w p L) {k : Nat} (hk : k < L.length) : ∃ b o, p = some ⟨b, o, none⟩ ∧ b < w.heap.size ∧ w.cell? ⟨b, o + k * 4, none⟩ = some (.int .i64 (L.getD k default).lv) ∧ w.cell? ⟨b, o + k * 4 + 1, none⟩ = some (.string (L.getD k default).num)
    ∧ w.cell? ⟨b, o + k * 4 + 2, none⟩ = some (.string (L.getD k default).txt) ∧ w.cell? ⟨b, o + k * 4 + 3, none⟩ = some (.string (L.getD k default).anc) := by
  rcases h with h | ⟨b, o, h1, h2, h3⟩
  · rw [h] at hk; simp at hk
  · have hd : L.drop k = L.getD k default :: L.drop (k + 1) := by
      rw [List.drop_eq_getElem_cons hk]
      congr 1
      simp [List.getD, hk]
    have key : ∀ j u, ((EEnc L).drop (k * 4))[j]? = some u → w.cell? ⟨b, o + k * 4 + j, none⟩ = some u := by
      intro j u hu
      rw [List.getElem?_drop] at hu
      have := h3 _ u hu
      rw [Nat.add_assoc]; exact this
    rw [EEnc_drop, hd] at key
    exact ⟨b, o, h1, h2, key 0 _ rfl, key 1 _ rfl, key 2 _ rfl, key 3 _ rfl⟩
theorem src_ent {q : Nat → Prop} {w : World} {ty : TypeId} (e : Ent) : entS.src q (w.alloc (.cells #[.int .i64 e.lv, .string e.num, .string e.txt, .string e.anc] ty)) (.slice (some ⟨w.heap.size, 0, none⟩) 1 1) [e] :=
  ⟨_, Src.new w ty _ 1 1, rfl⟩

/-! ### maps -/
theorem lookup_own_bool {H : Type} {P : Program} (w : World) {ops : Array Oper} {rest : List Oper} {o : Oper} {a : Act} {Q : Exit → Act → World → Prop}
    (hg : o.guard = none) (m x : Operand) (t : TypeId) (hop : o.op = Op.lookup t m x false)
    (k e : TypeId) (K : Keyed P k) (ht : P.underlying t = some (.map k e)) (he : P.underlying e = some .bool) (hz : (zeroValue e).run P w = .ok (.bool false) w) (b n : Nat) (D : DataW H)
    (hm : a.eval m = .map (some b)) (hown : w.ownsMap P k (plainElem P e) b n D) (key : Value) (kl : Lit) (hx : a.eval x = key) (hkey : keyOf P k key = some kl)
    (hK : ∀ c : Bool, D.atKey kl (.lit (.bool false)) = .lit (.bool c) → wpList P ops Q rest (a.put o.dst (.bool c)) w) :
    wpList P ops Q (o :: rest) a w := by
  refine wpList_plain hg fun K' hK' => ?_
  obtain ⟨v, ps, hrun, hv⟩ := hown.lookup K ht hz (plainElem_bool he false) hkey
  obtain ⟨c, rfl, hc⟩ : ∃ c, v = .bool c ∧ D.atKey kl (.lit (.bool false)) = .lit (.bool c) := by
    unfold plainElem at hv
    rw [he] at hv
    cases v <;> simp at hv
    exact ⟨_, rfl, hv.1.symm⟩
  unfold Oper.wp
  simp [execOp, hop, hm, hx, hrun, Result.andThen]
  exact hK' _ _ (hK c hc)
theorem keyS : Keyed Tryd.prog 9 := string_keyed Tryd.underlying9
theorem keyI : Keyed Tryd.prog 3 := int_keyed Tryd.underlying3
theorem zeroB (w : World) : (zeroValue 4).run Tryd.prog w = .ok (.bool false) w := by kernel_rfl
theorem zeroI (w : World) : (zeroValue 3).run Tryd.prog w = .ok (.int .i64 0) w := by kernel_rfl
/-- the anchors that are taken: a map of the call's own -/
def SetM (w : World) (b n : Nat) (f : List UInt8 → Bool) : Prop := ∃ D : DataW Unit, w.ownsMap Tryd.prog 9 (plainElem Tryd.prog 4) b n D ∧ ∀ s : List UInt8, D.atKey (.string s) (.lit (.bool false)) = .lit (.bool (f s))
/-- how many entries a parent has: a map of the call's own -/
def CntM (w : World) (b n : Nat) (g : Int → Nat) : Prop := ∃ D : DataW Unit, w.ownsMap Tryd.prog 3 (plainElem Tryd.prog 3) b n D ∧ ∀ p : Int, D.atKey (.int .i64 p) (.lit (.int .i64 0)) = .lit (.int .i64 (g p))
theorem SetM.made (w : World) : SetM (w.alloc (.map #[] 0)) w.heap.size 0 (fun _ => false) := ⟨.map [], World.ownsMap_made _ _ _ _, fun s => rfl⟩
theorem CntM.made (w : World) : CntM (w.alloc (.map #[] 0)) w.heap.size 0 (fun _ => 0) := ⟨.map [], World.ownsMap_made _ _ _ _, fun s => rfl⟩
theorem SetM.lt {w : World} {b n : Nat} {f : List UInt8 → Bool} (h : SetM w b n f) : b < w.heap.size := by obtain ⟨D, h, -⟩ := h; exact h.lt
theorem CntM.lt {w : World} {b n : Nat} {f : Int → Nat} (h : CntM w b n f) : b < w.heap.size := by obtain ⟨D, h, -⟩ := h; exact h.lt
theorem SetM.grown {w w' : World} {b n : Nat} {f : List UInt8 → Bool} {row : Option Nat} (h : SetM w b n f) (hg : w.grownBy w' row) (hr : some b ≠ row) : SetM w' b n f := by
  obtain ⟨D, h1, h2⟩ := h; exact ⟨D, h1.kept hg hr, h2⟩
theorem CntM.grown {w w' : World} {b n : Nat} {f : Int → Nat} {row : Option Nat} (h : CntM w b n f) (hg : w.grownBy w' row) (hr : some b ≠ row) : CntM w' b n f := by
  obtain ⟨D, h1, h2⟩ := h; exact ⟨D, h1.kept hg hr, h2⟩
theorem grown_below {w w' : World} (hb : Below w.heap.size w w') : w.grownBy w' none := ⟨hb.os, hb.tape, hb.output, hb.size, fun k hk _ => hb.block k hk⟩
theorem SetM.below {w w' : World} {b n : Nat} {f : List UInt8 → Bool} (h : SetM w b n f) (hb : Below w.heap.size w w') : SetM w' b n f := h.grown (grown_below hb) (by simp)
theorem CntM.below {w w' : World} {b n : Nat} {f : Int → Nat} (h : CntM w b n f) (hb : Below w.heap.size w w') : CntM w' b n f := h.grown (grown_below hb) (by simp)
theorem SetM.put {w : World} {b n : Nat} {f : List UInt8 → Bool} (h : SetM w b n f) {a : Addr} (ha : b ≠ a.block) (u : Value) : SetM (w.setCell a u) b n f := by
  obtain ⟨D, h1, h2⟩ := h; exact ⟨D, h1.setCell ha u, h2⟩
theorem CntM.put {w : World} {b n : Nat} {f : Int → Nat} (h : CntM w b n f) {a : Addr} (ha : b ≠ a.block) (u : Value) : CntM (w.setCell a u) b n f := by
  obtain ⟨D, h1, h2⟩ := h; exact ⟨D, h1.setCell ha u, h2⟩
/-- is the anchor taken? -/
theorem setM_look (w : World) {ops : Array Oper} {rest : List Oper} {o : Oper} {a : Act} {Q : Exit → Act → World → Prop} (hg : o.guard = none) (m x : Operand) (hop : o.op = Op.lookup 77 m x false)
    {b n : Nat} {f : List UInt8 → Bool} (h : SetM w b n f) (s : ByteArray) (hs : s.size ≤ 9223372036854775807) (hm : a.eval m = .map (some b)) (hx : a.eval x = .string s)
    (hK : wpList Tryd.prog ops Q rest (a.put o.dst (.bool (f s.data.toList))) w) : wpList Tryd.prog ops Q (o :: rest) a w := by
  obtain ⟨D, h1, h2⟩ := h
  refine lookup_own_bool w hg m x 77 hop 9 4 keyS Tryd.underlying77 Tryd.underlying4 (zeroB w) b n D hm h1 (.string s) _ hx (keyOf_string_mk Tryd.underlying9 hs) fun c hc => ?_
  rw [h2] at hc
  injection hc with hc
  injection hc with hc
  subst hc
  exact hK
theorem setM_set (w : World) {ops : Array Oper} {rest : List Oper} {o : Oper} {a : Act} {Q : Exit → Act → World → Prop} (hg : o.guard = none) (m x v : Operand) (hop : o.op = Op.mapUpdate 77 m x v)
    {b n : Nat} {f : List UInt8 → Bool} (h : SetM w b n f) (hn : n < maxLen) (s : ByteArray) (hs : s.size ≤ 9223372036854775807) (hm : a.eval m = .map (some b)) (hx : a.eval x = .string s) (hv : a.eval v = .bool true)
    (hK : ∀ w', SetM w' b (n + 1) (fun t => f t || (s.data.toList == t)) → w.grownBy w' (some b) → wpList Tryd.prog ops Q rest (a.put o.dst undef) w') : wpList Tryd.prog ops Q (o :: rest) a w := by
  obtain ⟨D, h1, h2⟩ := h
  refine wpList_mapUpdate_own w hg m x v 77 hop 9 4 keyS Tryd.underlying77 _ b n D hm h1 hn (.string s) (.bool true) _ hx hv (keyOf_string_mk Tryd.underlying9 hs) _ [] (plainElem_bool Tryd.underlying4 true) fun w' h3 h4 => ?_
  refine hK w' ⟨_, h3, fun t => ?_⟩ h4
  by_cases e : s.data.toList = t
  · subst e
    rw [atKey_put_same h1.isMap (by first | exact trivial | exact rfl | simp [WideAt.IsKeyLit])]
    simp
  · rw [atKey_put_other (fun e' => e (by injection e' with e'; exact e'.symm)), h2]
    congr 2
    simp [e]
theorem cntM_look (w : World) {ops : Array Oper} {rest : List Oper} {o : Oper} {a : Act} {Q : Exit → Act → World → Prop} (hg : o.guard = none) (m x : Operand) (hop : o.op = Op.lookup 78 m x false)
    {b n : Nat} {f : Int → Nat} (h : CntM w b n f) (p : Int) (hp : -9223372036854775808 ≤ p ∧ p ≤ 9223372036854775807) (hm : a.eval m = .map (some b)) (hx : a.eval x = .int .i64 p)
    (hK : wpList Tryd.prog ops Q rest (a.put o.dst (.int .i64 (f p))) w) : wpList Tryd.prog ops Q (o :: rest) a w := by
  obtain ⟨D, h1, h2⟩ := h
  refine wpList_lookup_own_int w hg m x 78 hop 3 3 .i64 keyI Tryd.underlying78 Tryd.underlying3 (zeroI w) b n D hm h1 (.int .i64 p) _ hx (keyOf_int_mk Tryd.underlying3 (WalkArith.wf_i64 hp)) fun c hc hw => ?_
  rw [h2] at hc
  injection hc with hc
  injection hc with hc hc
  subst hc
  exact hK
theorem cntM_set (w : World) {ops : Array Oper} {rest : List Oper} {o : Oper} {a : Act} {Q : Exit → Act → World → Prop} (hg : o.guard = none) (m x v : Operand) (hop : o.op = Op.mapUpdate 78 m x v)
    {b n : Nat} {f : Int → Nat} (h : CntM w b n f) (hn : n < maxLen) (p : Int) (hp : -9223372036854775808 ≤ p ∧ p ≤ 9223372036854775807) (c : Nat) (hc : c ≤ 9223372036854775807) (hm : a.eval m = .map (some b)) (hx : a.eval x = .int .i64 p) (hv : a.eval v = .int .i64 c)
    (hK : ∀ w', CntM w' b (n + 1) (fun t => if t = p then c else f t) → w.grownBy w' (some b) → wpList Tryd.prog ops Q rest (a.put o.dst undef) w') : wpList Tryd.prog ops Q (o :: rest) a w := by
  obtain ⟨D, h1, h2⟩ := h
  refine wpList_mapUpdate_own w hg m x v 78 hop 3 3 keyI Tryd.underlying78 _ b n D hm h1 hn (.int .i64 p) (.int .i64 c) _ hx hv (keyOf_int_mk Tryd.underlying3 (WalkArith.wf_i64 hp)) _ [] (plainElem_int Tryd.underlying3 (WalkArith.wf_i64 (by omega))) fun w' h3 h4 => ?_
  refine hK w' ⟨_, h3, fun t => ?_⟩ h4
  by_cases e : t = p
  · subst e
    rw [atKey_put_same h1.isMap (by first | exact trivial | exact rfl | simp [WideAt.IsKeyLit])]
    simp
  · rw [atKey_put_other (fun e' => e (by injection e')), h2]
    simp [e]
end Go.Proofs.YtibmemaciahofaaDoor
