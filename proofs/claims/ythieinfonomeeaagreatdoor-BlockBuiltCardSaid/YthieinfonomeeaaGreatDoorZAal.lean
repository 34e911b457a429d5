/-
  The claim's own texts, packed. Conditions: those typed in each theorem.
-/
import Derived.Test.YthieinfonomeeaaGreatDoorZAag
import Derived.Test.YthieinfonomeeaaGreatDoorZAai
import Derived.Test.YthieinfonomeeaaGreatDoorZAac
namespace Go.Proofs.YthieinfonomeeaaGreatDoor
open Go.RowKit Doc Inl
set_option linter.unusedVariables false
structure Step (g : Nat) (w w' : World) : Prop where
 below : Below g w w'
 rest : ∀ k, g < k → k < w.heap.size → w'.heap[k]? = w.heap[k]?
theorem Step.refl (g : Nat) (w : World) : Step g w w := ⟨Below.refl _ _, fun _ _ _ => rfl⟩
theorem Step.trans {g : Nat} {a b c : World} (h : Step g a b) (k : Step g b c) : Step g a c :=
 ⟨h.below.trans k.below, fun i h1 h2 => (k.rest i h1 (Nat.lt_of_lt_of_le h2 h.below.size)).trans (h.rest i h1 h2)⟩
theorem Step.of_below {g : Nat} {w w' : World} (h : Below w.heap.size w w') (hg : g ≤ w.heap.size) : Step g w w' := ⟨h.mono hg, fun k _ h2 => h.block k h2⟩
theorem Step.put {g : Nat} {a w : World} (h : Step g a w) (i : Nat) (u : Value) : Step g a (w.setCell ⟨g, i, none⟩ u) :=
 h.trans ⟨(Below.refl g w).setCell (p := ⟨g, i, none⟩) (Nat.le_refl _) u, fun k h1 h2 => Below.heap_setCell _ _ _ _ (show k ≠ g by omega)⟩
theorem Step.kept {g : Nat} {w w' : World} (h : Step g w w') : Kept (· ≠ g) (· ≠ g) w w' := fun k hk hl => ⟨hk, by
 have hk : k ≠ g := hk
 by_cases e : k < g
 ·exact h.below.block k e
 ·exact h.rest k (by omega) hl⟩
def kg (B g : Nat) (k : Nat) : Prop := B ≤ k ∧ k ≠ g
theorem Step.known {g r : Nat} {t : TypeId} {cs : Array Value} {w w' : World} (h : Step g w w') (k : Known w r t cs) (hr : r ≠ g) : Known w' r t cs := (h.kept r hr k.lt).2.trans k
theorem Step.size {g : Nat} {w w' : World} (h : Step g w w') : w.heap.size ≤ w'.heap.size := h.below.size
theorem Step.onto {g : Nat} {w0 w w' : World} {B : Nat} (h : Below B w0 w) (hB : B ≤ g) (k : Step g w w') : Below B w0 w' := h.trans (k.below.mono hB)
abbrev Ops := List (Int × Ins)
def SEnc (q : Nat → Prop) (w : World) : Ops → List Value → Prop
 | [], xs => xs = []
 | (k, l) :: r, xs => ∃ v zs, xs = .int .i64 k :: v :: zs ∧ Sl q w l.len (IEnc q w l) v ∧ SEnc q w r zs
theorem SEnc.on {q q' : Nat → Prop} {w w' : World} (hq : Kept q q' w w') : ∀ {L : Ops} {xs : List Value}, SEnc q w L xs → SEnc q' w' L xs
 | [], xs, h => h
 | (k, l) :: r, xs, ⟨v, zs, h1, h2, h3⟩ => ⟨v, zs, h1, h2.on hq (fun ys => IEnc.on hq), SEnc.on hq h3⟩
theorem SEnc.app {q : Nat → Prop} {w : World} : ∀ {A B : Ops} {xs ys : List Value}, SEnc q w A xs → SEnc q w B ys → SEnc q w (A ++ B) (xs ++ ys)
 | [], B, xs, ys, h, hb => by have h : xs = [] := h; subst h; exact hb
 | (k, l) :: r, B, xs, ys, ⟨v, zs, h1, h2, h3⟩, hb => by subst h1; exact ⟨v, zs ++ ys, rfl, h2, SEnc.app h3 hb⟩
theorem SEnc.split {q : Nat → Prop} {w : World} : ∀ {A B : Ops} {xs : List Value}, SEnc q w (A ++ B) xs → ∃ ys zs, xs = ys ++ zs ∧ SEnc q w A ys ∧ SEnc q w B zs
 | [], B, xs, h => ⟨[], xs, rfl, rfl, h⟩
 | (k, l) :: r, B, xs, ⟨v, zs, h1, h2, h3⟩ => by
   obtain ⟨ys, us, h4, h5, h6⟩ := SEnc.split h3
   exact ⟨.int .i64 k :: v :: ys, us, by rw [h1, h4]; rfl, ⟨v, ys, rfl, h2, h5⟩, h6⟩
theorem SEnc.length {q : Nat → Prop} {w : World} : ∀ {A : Ops} {xs : List Value}, SEnc q w A xs → xs.length = A.length * 2
 | [], xs, h => by have h : xs = [] := h; subst h; rfl
 | (k, l) :: r, xs, ⟨v, zs, h1, h2, h3⟩ => by
   subst h1
   simp only [List.length_cons, SEnc.length h3]
   omega
theorem SEnc.one {q : Nat → Prop} {w : World} : ∀ {A : Ops} {xs : List Value}, SEnc q w A xs → ∀ u ∈ xs, u.oneCell' = true
 | [], xs, h, u, hu => by have h : xs = [] := h; subst h; cases hu
 | (k, l) :: r, xs, ⟨v, zs, h1, h2, h3⟩, u, hu => by
   subst h1
   simp only [List.mem_cons] at hu
   rcases hu with rfl | rfl | hu
   ·rfl
   ·exact h2.one
   ·exact SEnc.one h3 u hu
def stkS : Shp Ops := { len := List.length, app := (· ++ ·), sz := 2, enc := SEnc, nil := [], enc_nil := fun _ _ => rfl, len_nil := rfl, nil_of := fun _ => List.length_eq_zero_iff.1, on := fun h => SEnc.on h, join := SEnc.app, length := SEnc.length, ones := SEnc.one, len_app := fun _ _ => List.length_append }
theorem stk_len (L : Ops) : stkS.len L = L.length := rfl
theorem tyO : Typ Tryz.prog 136 135 2 32 :=
 Typ.mk' (z := .agg #[.int .i64 0, .slice none 0 0]) Tryz.underlying136 (by kernel_rfl) rfl (by decide)
theorem stk_at {q : Nat → Prop} {w : World} {p : Option Addr} {n c : Nat} {A B : Ops} {k : Int} {l : Ins} (h : stkS.sl q w (.slice p n c) (A ++ (k, l) :: B)) :
  ∃ b o kp kc, p = some ⟨b, o, none⟩ ∧ q b ∧ b < w.heap.size ∧ n = A.length + (B.length + 1) ∧ n ≤ c ∧ c ≤ maxLen ∧ w.cell? ⟨b, o + A.length * 2, none⟩ = some (.int .i64 k) ∧ w.cell? ⟨b, o + A.length * 2 + 1, none⟩ = some (.slice kp l.len kc) ∧ insS.sl q w (.slice kp l.len kc) l := by
 obtain ⟨p', c', h1, h2, h3, h4, h5⟩ := h
 injection h1 with e1 e2 e3
 subst e1 e2 e3
 have hl : stkS.len (A ++ (k, l) :: B) = A.length + (B.length + 1) := by rw [stk_len, List.length_append, List.length_cons]
 rcases h5 with h5 | ⟨b, o, ys, rfl, h6, h7, h8, h9⟩
 ·omega
 ·obtain ⟨xs, zs, rfl, ha, hb⟩ := SEnc.split h9
  obtain ⟨v, us, rfl, hv, hr⟩ := hb
  obtain ⟨kp, kc, rfl⟩ := hv.form
  have hla := ha.length
  refine ⟨b, o, kp, kc, rfl, h6, h7, hl, h2, h3, ?_, ?_, hv⟩
  ·exact h8 (A.length * 2) _ (by rw [List.getElem?_append_right (by omega), hla, Nat.sub_self]; rfl)
  ·have := h8 (A.length * 2 + 1) (.slice kp l.len kc) (by rw [List.getElem?_append_right (by omega), hla, show A.length * 2 + 1 - A.length * 2 = 1 by omega]; rfl)
   rwa [show o + (A.length * 2 + 1) = o + A.length * 2 + 1 by omega] at this
theorem stk_form {e : TypeId} {q : Nat → Prop} {B : Nat} {w : World} {v : Value} {A C : Ops} {x : Int × Ins} (h : stkS.own e q B w v (A ++ x :: C)) : ∃ r c, v = .slice (some ⟨r, 0, none⟩) (A.length + (C.length + 1)) c ∧ B ≤ r ∧ r < w.heap.size ∧ v.ownBlock = some r := by
 have hl := h.lt
 obtain ⟨xs, h1, _⟩ := h
 have hn : stkS.len (A ++ x :: C) = A.length + (C.length + 1) := by rw [stk_len, List.length_append, List.length_cons]
 rw [hn] at h1
 rcases h1.2 with ⟨_, h0⟩ | ⟨g, cap, cur, rfl, _⟩
 ·omega
 ·exact ⟨g, cap, rfl, (hl g rfl).1, (hl g rfl).2, rfl⟩
theorem stk_own_at {e : TypeId} {q : Nat → Prop} {B r n c : Nat} {w : World} {A C : Ops} {k : Int} {l : Ins} (h : stkS.own e q B w (.slice (some ⟨r, 0, none⟩) n c) (A ++ (k, l) :: C)) :
  ∃ kp kc, w.cell? ⟨r, A.length * 2, none⟩ = some (.int .i64 k) ∧ w.cell? ⟨r, A.length * 2 + 1, none⟩ = some (.slice kp l.len kc) ∧ insS.sl (Shp.kind q B (.slice (some ⟨r, 0, none⟩) n c)) w (.slice kp l.len kc) l := by
 obtain ⟨xs, h1, h2⟩ := h
 obtain ⟨ys, zs, rfl, ha, v, us, rfl, hv, hr⟩ := SEnc.split h2
 have hla := ha.length
 obtain ⟨kp, kc, rfl⟩ := hv.form
 have hA := own_at h1 (g := r) rfl
 refine ⟨kp, kc, ?_, ?_, hv⟩
 ·have := hA (A.length * 2) (.int .i64 k) (by rw [List.getElem?_append_right (by omega), hla, Nat.sub_self]; rfl)
  rwa [Nat.zero_add] at this
 ·have := hA (A.length * 2 + 1) (.slice kp l.len kc) (by rw [List.getElem?_append_right (by omega), hla, show A.length * 2 + 1 - A.length * 2 = 1 by omega]; rfl)
  rwa [Nat.zero_add] at this
theorem stk_store {e : TypeId} {q : Nat → Prop} {B r n c : Nat} {w : World} {A : Ops} {k : Int} {l l' : Ins} {u : Value} (h : stkS.own e q B w (.slice (some ⟨r, 0, none⟩) n c) (A ++ [(k, l)])) (hn : n = A.length + 1) (hu : insS.sl (Shp.kind q B (.slice (some ⟨r, 0, none⟩) n c)) w u l') :
  (∃ a0, w.cell? ⟨r, A.length * 2 + 1, none⟩ = some a0) ∧ (∀ j, w.frozen? ⟨r, j, none⟩ = false) ∧ stkS.own e q B (w.setCell ⟨r, A.length * 2 + 1, none⟩ u) (.slice (some ⟨r, 0, none⟩) n c) (A ++ [(k, l')]) := by
 obtain ⟨xs, h1, h2⟩ := h
 have hl : ∀ z : Int × Ins, stkS.len (A ++ [z]) = n := fun z => by rw [stk_len, List.length_append, hn]; rfl
 rw [hl] at h1
 obtain ⟨ys, zs, rfl, ha, v, us, rfl, hv, hr⟩ := SEnc.split h2
 have hr : us = [] := hr
 subst hr
 have hla := ha.length
 refine ⟨⟨v, ?_⟩, fun j => h1.frozenAt j, ?_⟩
 ·rw [h1.cellAt _ (by show _ < n * 2; omega), List.getElem?_append_right (by omega), hla, show A.length * 2 + 1 - A.length * 2 = 1 by omega]
  rfl
 ·have s1 := (h1.stored (A.length * 2 + 1) u).1
  refine ⟨_, by rw [hl]; exact s1, ?_⟩
  have e1 : (ys ++ [Value.int .i64 k, v]).set (A.length * 2 + 1) u = ys ++ [Value.int .i64 k, u] := by
   rw [List.set_append_right _ _ (by omega), hla, show A.length * 2 + 1 - A.length * 2 = 1 by omega]
   rfl
  have hq : Kept (Shp.kind q B (.slice (some ⟨r, 0, none⟩) n c)) (Shp.kind q B (.slice (some ⟨r, 0, none⟩) n c)) w (w.setCell ⟨r, A.length * 2 + 1, none⟩ u) :=
   Kept.put (fun k hk e => hk.2 (by rw [e]; rfl)) _ _
  show SEnc _ _ _ _
  rw [e1]
  exact SEnc.app (SEnc.on hq ha) ⟨u, [], rfl, insS.sl_on hu hq, rfl⟩
def RS (B g : Nat) (w : World) (L : Ops) (t : Bool) : Prop := ∃ p c, Known w g 138 #[.slice p L.length c, .bool t] ∧ stkS.sl (kg B g) w (.slice p L.length c) L
theorem RS.lt {B g : Nat} {w : World} {L : Ops} {t : Bool} (h : RS B g w L t) : g < w.heap.size := by
 obtain ⟨p, c, h1, _⟩ := h; exact h1.lt
theorem RS.below {B g : Nat} {w w' : World} {L : Ops} {t : Bool} (h : RS B g w L t) (hb : Below w.heap.size w w') : RS B g w' L t := by
 obtain ⟨p, c, h1, h2⟩ := h
 exact ⟨p, c, h1.on hb, stkS.sl_on h2 (Kept.below hb)⟩
theorem src_known {q : Nat → Prop} {w : World} {r : Nat} {ty : TypeId} {a : Int} {t : ByteArray} {s : Int} {n h : ByteArray} {k : Ins} {v : Value} (hK : Known w r ty #[.int .i64 a, .string t, .int .i64 s, .string n, .string h, v]) (hk : insS.sl q w v k) :
  insS.src q w (.slice (some ⟨r, 0, none⟩) 1 1) (.cons a t s n h k .nil) :=
 ⟨[.int .i64 a, .string t, .int .i64 s, .string n, .string h, v], ⟨_, 1, rfl, (fun h => by cases h), fun ad ha j u hu => by
  obtain rfl := (Option.some.inj ha).symm
  rw [add_at, Nat.zero_add, hK.cell j]
  simpa using hu⟩, v, [], rfl, hk, rfl⟩
theorem src_open {q : Nat → Prop} {w : World} {r : Nat} {ty : TypeId} {k : Int} {l : Ins} {v : Value} (hK : Known w r ty #[.int .i64 k, v]) (hk : insS.sl q w v l) :
  stkS.src q w (.slice (some ⟨r, 0, none⟩) 1 1) [(k, l)] :=
 ⟨[.int .i64 k, v], ⟨_, 1, rfl, (fun h => by cases h), fun ad ha j u hu => by
  obtain rfl := (Option.some.inj ha).symm
  rw [add_at, Nat.zero_add, hK.cell j]
  simpa using hu⟩, v, [], rfl, hk, rfl⟩
theorem known_grown {w w' : World} {g : Nat} {t : TypeId} {cs : Array Value} {row : Option Nat} (h : Known w g t cs) (hg : w.grownBy w' row) (hne : row ≠ some g) : Known w' g t cs := (hg.block g h.lt (Ne.symm hne)).trans h
end Go.Proofs.YthieinfonomeeaaGreatDoor
namespace Go.Proofs.YthieinfonomeeaaGreatDoor
open Go.RowKit Doc Inl
set_option linter.unusedVariables false
theorem IEnc.split {q : Nat → Prop} {w : World} : ∀ {A B : Ins} {xs : List Value}, IEnc q w (A.app B) xs → ∃ ys zs, xs = ys ++ zs ∧ IEnc q w A ys ∧ IEnc q w B zs := by
 intro A
 induction A with
 | nil => intro B xs h; exact ⟨[], xs, rfl, rfl, h⟩
 | cons a t s n h k r _ ihr =>
   rintro B xs ⟨v, zs, rfl, h2, h3⟩
   obtain ⟨ys, us, rfl, h5, h6⟩ := ihr h3
   exact ⟨_, us, rfl, ⟨v, ys, rfl, h2, h5⟩, h6⟩
theorem ins_form {e : TypeId} {q : Nat → Prop} {B : Nat} {w : World} {v : Value} {L : Ins} {n : Nat} (h : insS.own e q B w v L) (hn : L.len = n + 1) : ∃ r c, v = .slice (some ⟨r, 0, none⟩) (n + 1) c ∧ B ≤ r ∧ r < w.heap.size ∧ v.ownBlock = some r := by
 have hl := h.lt
 obtain ⟨xs, h1, _⟩ := h
 have hn' : insS.len L = n + 1 := hn
 rw [hn'] at h1
 rcases h1.2 with ⟨_, h0⟩ | ⟨g, cap, cur, rfl, _⟩
 ·omega
 ·exact ⟨g, cap, rfl, (hl g rfl).1, (hl g rfl).2, rfl⟩
theorem ins_store {e : TypeId} {q : Nat → Prop} {B r n c : Nat} {w : World} {l : Ins} {p p' : List UInt8} (h : insS.own e q B w (.slice (some ⟨r, 0, none⟩) n c) (l.app (txt p))) (hn : n = l.len + 1) :
  w.cell? ⟨r, l.len * 6 + 1, none⟩ = some (.string ⟨p.toArray⟩) ∧ (∀ j, w.frozen? ⟨r, j, none⟩ = false) ∧ insS.own e q B (w.setCell ⟨r, l.len * 6 + 1, none⟩ (.string ⟨p'.toArray⟩)) (.slice (some ⟨r, 0, none⟩) n c) (l.app (txt p')) := by
 obtain ⟨xs, h1, h2⟩ := h
 have hl : ∀ z, insS.len (l.app (txt z)) = n := fun z => by show (l.app (txt z)).len = n; rw [Ins.len_app, hn]; rfl
 rw [hl] at h1
 obtain ⟨ys, zs, rfl, ha, v, us, rfl, hv, hr⟩ := IEnc.split h2
 have hr : us = [] := hr
 subst hr
 have hla := ha.length
 refine ⟨?_, fun j => h1.frozenAt j, ?_⟩
 ·rw [h1.cellAt _ (by show _ < n * 6; omega), List.getElem?_append_right (by omega), hla, show l.len * 6 + 1 - l.len * 6 = 1 by omega]
  rfl
 ·have s1 := (h1.stored (l.len * 6 + 1) (.string ⟨p'.toArray⟩)).1
  refine ⟨_, by rw [hl]; exact s1, ?_⟩
  have e1 : (ys ++ [Value.int .i64 1, .string ⟨p.toArray⟩, .int .i64 0, .string ⟨#[]⟩, .string ⟨#[]⟩, v]).set (l.len * 6 + 1) (.string ⟨p'.toArray⟩) = ys ++ [Value.int .i64 1, .string ⟨p'.toArray⟩, .int .i64 0, .string ⟨#[]⟩, .string ⟨#[]⟩, v] := by
   rw [List.set_append_right _ _ (by omega), hla, show l.len * 6 + 1 - l.len * 6 = 1 by omega]
   rfl
  have hq : Kept (Shp.kind q B (.slice (some ⟨r, 0, none⟩) n c)) (Shp.kind q B (.slice (some ⟨r, 0, none⟩) n c)) w (w.setCell ⟨r, l.len * 6 + 1, none⟩ (.string ⟨p'.toArray⟩)) :=
   Kept.put (fun k hk e => hk.2 (by rw [e]; rfl)) _ _
  show IEnc _ _ _ _
  rw [e1]
  exact IEnc.app (IEnc.on hq ha) ⟨v, [], rfl, hv.on hq (fun ys => IEnc.on hq), rfl⟩
end Go.Proofs.YthieinfonomeeaaGreatDoor
namespace Go.Proofs.YthieinfonomeeaaGreatDoor
open Go.RowKit Doc Inl
set_option linter.unusedVariables false
abbrev Rows := List (Int × Ins × Value)
def tcells (T : Rows) : List Value := T.flatMap fun t => [.int .i64 t.1, t.2.2]
theorem tcells_app (A B : Rows) : tcells (A ++ B) = tcells A ++ tcells B := by simp [tcells]
theorem tcells_len : ∀ T : Rows, (tcells T).length = T.length * 2
 | [] => rfl
 | t :: r => by
   have h := tcells_len r
   unfold tcells at h ⊢
   simp only [List.flatMap_cons, List.length_append, List.length_cons, List.length_nil, h]
   omega
def ops (T : Rows) : Ops := T.map fun t => (t.1, t.2.1)
theorem ops_app (A B : Rows) : ops (A ++ B) = ops A ++ ops B := by simp [ops]
theorem ops_len (T : Rows) : (ops T).length = T.length := by simp [ops]
structure PRT (B g : Nat) (w : World) (T : Rows) (ov tv : Value) (p : List UInt8) (D : Nat → Prop) : Prop where
 le : B ≤ g
 kn : Known w g 123 #[ov, tv]
 rows : w.ownsRow B 125 2 ov T.length (tcells T)
 txt : BOwn B w tv p
 kids : ∀ t ∈ T, ∃ xs, w.ownsRow B 56 6 t.2.2 t.2.1.len xs ∧ IEnc D w t.2.1 xs
 dead : ∀ k, D k → k ≠ g ∧ ov.ownBlock ≠ some k ∧ tv.ownBlock ≠ some k ∧ ∀ t ∈ T, t.2.2.ownBlock ≠ some k
 db : ∀ k, D k → B ≤ k
 og : ov.ownBlock ≠ some g
 tg : tv.ownBlock ≠ some g
 kg : ∀ t ∈ T, t.2.2.ownBlock ≠ some g
 ot : ∀ k, ov.ownBlock = some k → tv.ownBlock ≠ some k
 ok : ∀ k, ov.ownBlock = some k → ∀ t ∈ T, t.2.2.ownBlock ≠ some k
 tk : ∀ k, tv.ownBlock = some k → ∀ t ∈ T, t.2.2.ownBlock ≠ some k
 kk : T.Pairwise fun a b => ∀ k, a.2.2.ownBlock = some k → b.2.2.ownBlock ≠ some k
def PR (B g : Nat) (w : World) (L : Ops) (p : List UInt8) : Prop := ∃ T ov tv D, PRT B g w T ov tv p D ∧ ops T = L
variable {B g : Nat} {w W : World} {T A : Rows} {ov tv : Value} {p : List UInt8} {D : Nat → Prop}
theorem PRT.lt (h : PRT B g w T ov tv p D) : g < w.heap.size := h.kn.lt
theorem PRT.klt (h : PRT B g w T ov tv p D) {t : Int × Ins × Value} (ht : t ∈ T) {k : Nat} (hk : t.2.2.ownBlock = some k) : B ≤ k ∧ k < w.heap.size := by
 obtain ⟨xs, h1, _⟩ := h.kids t ht
 exact h1.lt k hk
theorem PRT.below (h : PRT B g w T ov tv p D) (hb : Below w.heap.size w W) : PRT B g W T ov tv p (fun k => D k ∧ k < w.heap.size) :=
 {h with
  kn := h.kn.on hb
  rows := own_on h.rows fun k hk => hb.block k (h.rows.lt k hk).2
  txt := h.txt.below hb
  kids := fun t ht => by
   obtain ⟨xs, h1, h2⟩ := h.kids t ht
   exact ⟨xs, own_on h1 fun k hk => hb.block k (h1.lt k hk).2, IEnc.on (Kept.belowLt hb) h2⟩
  dead := fun k hk => h.dead k hk.1
  db := fun k hk => h.db k hk.1 }
theorem PR.below {L : Ops} (h : PR B g w L p) (hb : Below w.heap.size w W) : PR B g W L p := by
 obtain ⟨T, ov, tv, D, h1, h2⟩ := h
 exact ⟨T, ov, tv, _, h1.below hb, h2⟩
theorem PR.lt {L : Ops} (h : PR B g w L p) : g < w.heap.size := by
 obtain ⟨T, ov, tv, D, h1, h2⟩ := h
 exact h1.lt
theorem PRT.text {tv' : Value} {p' : List UInt8} (h : PRT B g w T ov tv p D) (hz : w.heap.size ≤ W.heap.size) (hkeep : ∀ k, k < w.heap.size → k ≠ g → tv.ownBlock ≠ some k → W.heap[k]? = w.heap[k]?) (hkn : Known W g 123 #[ov, tv']) (ht : BOwn B W tv' p')
  (hv : ∀ k, tv'.ownBlock = some k → k ≠ g ∧ (tv.ownBlock = some k ∨ w.heap.size ≤ k)) : PRT B g W T ov tv' p' (fun k => D k ∧ k < w.heap.size) where
 le := h.le
 kn := hkn
 rows := own_on h.rows fun k hk => hkeep k (h.rows.lt k hk).2 (fun e => h.og (by rw [← e]; exact hk)) (h.ot k hk)
 txt := ht
 kids := fun t htt => by
  obtain ⟨xs, h1, h2⟩ := h.kids t htt
  refine ⟨xs, own_on h1 fun k hk => hkeep k (h1.lt k hk).2 (fun e => h.kg t htt (by rw [← e]; exact hk)) (fun e => h.tk k e t htt hk), IEnc.on (fun k hk hl => ⟨⟨hk, hl⟩, hkeep k hl (h.dead k hk).1 (h.dead k hk).2.2.1⟩) h2⟩
 dead := fun k hk => ⟨(h.dead k hk.1).1, (h.dead k hk.1).2.1, fun e => by
  rcases (hv k e).2 with e2 | e2
  ·exact (h.dead k hk.1).2.2.1 e2
  ·have := hk.2; omega, (h.dead k hk.1).2.2.2⟩
 db := fun k hk => h.db k hk.1
 og := h.og
 tg := fun e => (hv g e).1 rfl
 kg := h.kg
 ot := fun k hk e => by
  rcases (hv k e).2 with e2 | e2
  ·exact h.ot k hk e2
  ·have := (h.rows.lt k hk).2; omega
 ok := h.ok
 tk := fun k hk t htt e => by
  rcases (hv k hk).2 with e2 | e2
  ·exact h.tk k e2 t htt e
  ·have := (h.klt htt e).2; omega
 kk := h.kk
theorem PRT.last {k : Int} {l l' : Ins} {kv kv' : Value} {E : Nat → Prop} {xs : List Value} (h : PRT B g w (A ++ [(k, l, kv)]) ov tv p D) (hkeep : ∀ j, j < w.heap.size → ov.ownBlock ≠ some j → kv.ownBlock ≠ some j → W.heap[j]? = w.heap[j]?)
  (hrows : W.ownsRow B 125 2 ov (A ++ [(k, l', kv')]).length (tcells (A ++ [(k, l', kv')]))) (hEB : ∀ j, E j → B ≤ j) (hE : ∀ j, E j → j < w.heap.size ∧ j ≠ g ∧ ov.ownBlock ≠ some j ∧ tv.ownBlock ≠ some j ∧ ∀ t ∈ A ++ [(k, l, kv)], t.2.2.ownBlock ≠ some j)
  (hk : W.ownsRow B 56 6 kv' l'.len xs) (hx : IEnc (fun j => (D j ∨ E j) ∧ j < w.heap.size) W l' xs)
  (hv : ∀ j, kv'.ownBlock = some j → (kv.ownBlock = some j ∨ w.heap.size ≤ j)) : PRT B g W (A ++ [(k, l', kv')]) ov tv p (fun j => (D j ∨ E j) ∧ j < w.heap.size) := by
 have hm : ∀ t ∈ A, t ∈ A ++ [(k, l, kv)] := fun t ht => List.mem_append_left _ ht
 have hlast : (k, l, kv) ∈ A ++ [(k, l, kv)] := by simp
 have hpw := List.pairwise_append.1 h.kk
 have hAk : ∀ t ∈ A, ∀ j, t.2.2.ownBlock = some j → kv.ownBlock ≠ some j := fun t ht j hj => hpw.2.2 t ht (k, l, kv) (by simp) j hj
 have hgk : W.heap[g]? = w.heap[g]? := hkeep g h.lt h.og (h.kg _ hlast)
 have hor : ∀ j, D j ∨ E j → j ≠ g ∧ ov.ownBlock ≠ some j ∧ tv.ownBlock ≠ some j ∧ ∀ t ∈ A ++ [(k, l, kv)], t.2.2.ownBlock ≠ some j := fun j hj => by
  rcases hj with hj | hj
  ·exact h.dead j hj
  ·exact (hE j hj).2
 refine
  {le := h.le
   kn := hgk.trans h.kn
   rows := hrows
   txt := h.txt.on fun j hj => hkeep j (World.ownsRow.lt h.txt j hj).2 (fun e => h.ot j e hj) (h.tk j hj _ hlast)
   kids := ?_
   dead := ?_
   db := fun j hj => hj.1.elim (h.db j) (hEB j)
   og := h.og
   tg := h.tg
   kg := ?_
   ot := h.ot
   ok := ?_
   tk := ?_
   kk := ?_ }
 ·intro t ht
  rcases List.mem_append.1 ht with ht | ht
  ·obtain ⟨ys, h1, h2⟩ := h.kids t (hm t ht)
   refine ⟨ys, own_on h1 fun j hj => hkeep j (h1.lt j hj).2 (fun e => h.ok j e t (hm t ht) hj) (hAk t ht j hj), IEnc.on (fun j hj hl => ⟨⟨.inl hj, hl⟩, hkeep j hl (h.dead j hj).2.1 ((h.dead j hj).2.2.2 _ hlast)⟩) h2⟩
  ·rw [List.mem_singleton.1 ht]
   exact ⟨xs, hk, hx⟩
 ·rintro j ⟨hj, hl⟩
  obtain ⟨h1, h2, h3, h4⟩ := hor j hj
  refine ⟨h1, h2, h3, fun t ht => ?_⟩
  rcases List.mem_append.1 ht with ht | ht
  ·exact h4 t (hm t ht)
  ·rw [List.mem_singleton.1 ht]
   intro e
   rcases hv j e with e2 | e2
   ·exact h4 _ hlast e2
   ·omega
 ·intro t ht
  rcases List.mem_append.1 ht with ht | ht
  ·exact h.kg t (hm t ht)
  ·rw [List.mem_singleton.1 ht]
   intro e
   rcases hv g e with e2 | e2
   ·exact h.kg _ hlast e2
   ·have := h.lt; omega
 ·intro j hj t ht
  rcases List.mem_append.1 ht with ht | ht
  ·exact h.ok j hj t (hm t ht)
  ·rw [List.mem_singleton.1 ht]
   intro e
   rcases hv j e with e2 | e2
   ·exact h.ok j hj _ hlast e2
   ·have := (h.rows.lt j hj).2; omega
 ·intro j hj t ht
  rcases List.mem_append.1 ht with ht | ht
  ·exact h.tk j hj t (hm t ht)
  ·rw [List.mem_singleton.1 ht]
   intro e
   rcases hv j e with e2 | e2
   ·exact h.tk j hj _ hlast e2
   ·have := (World.ownsRow.lt h.txt j hj).2; omega
 ·refine List.pairwise_append.2 ⟨hpw.1, List.pairwise_singleton _ _, fun t ht u hu j hj => ?_⟩
  rw [List.mem_singleton.1 hu]
  intro e
  rcases hv j e with e2 | e2
  ·exact hAk t ht j hj e2
  ·have := (h.klt (hm t ht) hj).2; omega
theorem PRT.push {ov' : Value} {k : Int} (h : PRT B g w T ov tv p D) (hkeep : ∀ j, j < w.heap.size → j ≠ g → ov.ownBlock ≠ some j → W.heap[j]? = w.heap[j]?) (hkn : Known W g 123 #[ov', tv])
  (hrows : W.ownsRow B 125 2 ov' (T ++ [(k, Ins.nil, Value.slice none 0 0)]).length (tcells (T ++ [(k, Ins.nil, Value.slice none 0 0)])))
  (hv : ∀ j, ov'.ownBlock = some j → j ≠ g ∧ (ov.ownBlock = some j ∨ w.heap.size ≤ j)) : PRT B g W (T ++ [(k, Ins.nil, Value.slice none 0 0)]) ov' tv p (fun j => D j ∧ j < w.heap.size) := by
 have hnone : ∀ j, (Value.slice none 0 0).ownBlock ≠ some j := fun j e => by cases e
 refine
  {le := h.le
   kn := hkn
   rows := hrows
   txt := h.txt.on fun j hj => hkeep j (World.ownsRow.lt h.txt j hj).2 (fun e => h.tg (by rw [← e]; exact hj)) (fun e => h.ot j e hj)
   kids := ?_
   dead := ?_
   db := fun j hj => h.db j hj.1
   og := fun e => (hv g e).1 rfl
   tg := h.tg
   kg := ?_
   ot := ?_
   ok := ?_
   tk := ?_
   kk := ?_ }
 ·intro t ht
  rcases List.mem_append.1 ht with ht | ht
  ·obtain ⟨ys, h1, h2⟩ := h.kids t ht
   exact ⟨ys, own_on h1 fun j hj => hkeep j (h1.lt j hj).2 (fun e => h.kg t ht (by rw [← e]; exact hj)) (fun e => h.ok j e t ht hj), IEnc.on (fun j hj hl => ⟨⟨hj, hl⟩, hkeep j hl (h.dead j hj).1 (h.dead j hj).2.1⟩) h2⟩
  ·rw [List.mem_singleton.1 ht]
   exact ⟨[], World.ownsRow_nil _ _ _ _, rfl⟩
 ·rintro j ⟨hj, hl⟩
  obtain ⟨h1, h2, h3, h4⟩ := h.dead j hj
  refine ⟨h1, fun e => ?_, h3, fun t ht => ?_⟩
  ·rcases (hv j e).2 with e2 | e2
   ·exact h2 e2
   ·omega
  ·rcases List.mem_append.1 ht with ht | ht
   ·exact h4 t ht
   ·rw [List.mem_singleton.1 ht]; exact hnone j
 ·intro t ht
  rcases List.mem_append.1 ht with ht | ht
  ·exact h.kg t ht
  ·rw [List.mem_singleton.1 ht]; exact hnone g
 ·intro j hj e
  rcases (hv j hj).2 with e2 | e2
  ·exact h.ot j e2 e
  ·have := (World.ownsRow.lt h.txt j e).2; omega
 ·intro j hj t ht
  rcases List.mem_append.1 ht with ht | ht
  ·intro e
   rcases (hv j hj).2 with e2 | e2
   ·exact h.ok j e2 t ht e
   ·have := (h.klt ht e).2; omega
  ·rw [List.mem_singleton.1 ht]; exact hnone j
 ·intro j hj t ht
  rcases List.mem_append.1 ht with ht | ht
  ·exact h.tk j hj t ht
  ·rw [List.mem_singleton.1 ht]; exact hnone j
 ·refine List.pairwise_append.2 ⟨h.kk, List.pairwise_singleton _ _, fun t ht u hu j hj => ?_⟩
  rw [List.mem_singleton.1 hu]; exact hnone j
theorem own_less {e size n m c : Nat} {q : Option Addr} {xs ys : List Value} (h : w.ownsRow B e size (.slice q (n + m) c) (n + m) (xs ++ ys)) (hx : xs.length = n * size) (hn : 0 < n + m) : w.ownsRow B e size (.slice q n c) n xs := by
 refine ⟨hx, ?_⟩
 rcases h.2 with ⟨_, h0⟩ | ⟨r, cap, cur, h1, h2, h3, h4, h5, h6, h7⟩
 ·omega
 ·injection h1 with e1 e2 e3
  subst e1 e3
  refine .inr ⟨r, c, cur, rfl, h2, h3, by omega, h5, h6, ?_⟩
  have := congrArg (List.take (n * size)) h7
  rw [List.take_take, List.take_left' hx] at this
  rwa [Nat.min_eq_left (Nat.mul_le_mul_right _ (by omega))] at this
theorem PRT.pop {k : Int} {l : Ins} {kv ov' : Value} (h : PRT B g w (A ++ [(k, l, kv)]) ov tv p D) (hkeep : ∀ j, j < w.heap.size → j ≠ g → W.heap[j]? = w.heap[j]?) (hkn : Known W g 123 #[ov', tv])
  (hrows : W.ownsRow B 125 2 ov' A.length (tcells A)) (hv : ov'.ownBlock = ov.ownBlock) : PRT B g W A ov' tv p (fun j => (D j ∨ kv.ownBlock = some j) ∧ j < w.heap.size) ∧ insS.sl (fun j => (D j ∨ kv.ownBlock = some j) ∧ j < w.heap.size) W kv l := by
 have hm : ∀ t ∈ A, t ∈ A ++ [(k, l, kv)] := fun t ht => List.mem_append_left _ ht
 have hlast : (k, l, kv) ∈ A ++ [(k, l, kv)] := by simp
 have hpw := List.pairwise_append.1 h.kk
 have hAk : ∀ t ∈ A, ∀ j, kv.ownBlock = some j → t.2.2.ownBlock ≠ some j := fun t ht j hj e => hpw.2.2 t ht (k, l, kv) (by simp) j e hj
 have hD : Kept D (fun j => (D j ∨ kv.ownBlock = some j) ∧ j < w.heap.size) w W := fun j hj hl => ⟨⟨.inl hj, hl⟩, hkeep j hl (h.dead j hj).1⟩
 constructor
 ·refine
   {le := h.le
    kn := hkn
    rows := hrows
    txt := h.txt.on fun j hj => hkeep j (World.ownsRow.lt h.txt j hj).2 (fun e => h.tg (by rw [← e]; exact hj))
    kids := ?_
    dead := ?_
    db := fun j hj => hj.1.elim (h.db j) fun e => (h.klt hlast e).1
    og := by rw [hv]; exact h.og
    tg := h.tg
    kg := fun t ht => h.kg t (hm t ht)
    ot := by rw [hv]; exact h.ot
    ok := by rw [hv]; exact fun j hj t ht => h.ok j hj t (hm t ht)
    tk := fun j hj t ht => h.tk j hj t (hm t ht)
    kk := hpw.1 }
  ·intro t ht
   obtain ⟨ys, h1, h2⟩ := h.kids t (hm t ht)
   exact ⟨ys, own_on h1 fun j hj => hkeep j (h1.lt j hj).2 (fun e => h.kg t (hm t ht) (by rw [← e]; exact hj)), IEnc.on hD h2⟩
  ·rintro j ⟨hj | hj, hl⟩
   ·obtain ⟨h1, h2, h3, h4⟩ := h.dead j hj
    exact ⟨h1, by rw [hv]; exact h2, h3, fun t ht => h4 t (hm t ht)⟩
   ·exact ⟨fun e => h.kg _ hlast (by rw [← e]; exact hj), by rw [hv]; exact fun e => h.ok j e _ hlast hj, fun e => h.tk j e _ hlast hj, fun t ht => hAk t ht j hj⟩
 ·obtain ⟨ys, h1, h2⟩ := h.kids _ hlast
  have h1' : w.ownsRow B 56 6 kv l.len ys := h1
  refine Sl.of_own (E := insS.enc _ W l) (own_on h1' fun j hj => hkeep j (h1'.lt j hj).2 (fun e => h.kg _ hlast (by rw [← e]; exact hj))) (IEnc.on hD h2) fun j hj => ⟨.inr hj, (h1'.lt j hj).2⟩
end Go.Proofs.YthieinfonomeeaaGreatDoor
