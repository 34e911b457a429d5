/-
  Elements within a line and blocks, as they lie in memory. Conditions: those typed in each theorem.
-/
import Derived.Test.YtibmemaciahofaaDoorDoc
import Derived.Test.YtibmemaciahofaaDoorShp
namespace Go.Proofs.YtibmemaciahofaaDoor
open Go.RowKit Doc
set_option linter.unusedVariables false

/-- the cells of elements within a line -/
def IEnc (q : Nat → Prop) (w : World) : Ins → List Value → Prop
  | .nil, xs => xs = []
  | .cons a t s n h k r, xs => ∃ v zs, xs = .int .i64 a :: .string t :: .int .i64 s :: .string n :: .string h :: v :: zs ∧ Sl q w k.len (IEnc q w k) v ∧ IEnc q w r zs
/-- the cells of blocks -/
def BEnc (q : Nat → Prop) (w : World) : Bls → List Value → Prop
  | .nil, xs => xs = []
  | .cons a l t i k r, xs => ∃ u v zs, xs = .int .i64 a :: .int .i64 l :: .string t :: u :: v :: zs ∧ Sl q w i.len (IEnc q w i) u ∧ Sl q w k.len (BEnc q w k) v ∧ BEnc q w r zs

theorem IEnc.on {q q' : Nat → Prop} {w w' : World} (hq : Kept q q' w w') : ∀ {L : Ins} {xs : List Value}, IEnc q w L xs → IEnc q' w' L xs := by
  intro L
  induction L with
  | nil => intro xs h; exact h
  | cons a t s n h k r ihk ihr =>
    rintro xs ⟨v, zs, h1, h2, h3⟩
    exact ⟨v, zs, h1, h2.on hq (fun ys => ihk), ihr h3⟩
theorem BEnc.on {q q' : Nat → Prop} {w w' : World} (hq : Kept q q' w w') : ∀ {L : Bls} {xs : List Value}, BEnc q w L xs → BEnc q' w' L xs := by
  intro L
  induction L with
  | nil => intro xs h; exact h
  | cons a l t i k r ihk ihr =>
    rintro xs ⟨u, v, zs, h1, h2, h3, h4⟩
    exact ⟨u, v, zs, h1, h2.on hq (fun ys => IEnc.on hq), h3.on hq (fun ys => ihk), ihr h4⟩
theorem IEnc.app {q : Nat → Prop} {w : World} : ∀ {A B : Ins} {xs ys : List Value}, IEnc q w A xs → IEnc q w B ys → IEnc q w (A.app B) (xs ++ ys) := by
  intro A
  induction A with
  | nil => rintro B xs ys rfl hb; exact hb
  | cons a t s n h k r _ ihr =>
    rintro B xs ys ⟨v, zs, rfl, h2, h3⟩ hb
    exact ⟨v, zs ++ ys, rfl, h2, ihr h3 hb⟩
theorem IEnc.length {q : Nat → Prop} {w : World} : ∀ {A : Ins} {xs : List Value}, IEnc q w A xs → xs.length = A.len * 6 := by
  intro A
  induction A with
  | nil => rintro xs rfl; rfl
  | cons a t s n h k r _ ihr =>
    rintro xs ⟨v, zs, rfl, h2, h3⟩
    simp only [List.length_cons, ihr h3, Ins.len]
    omega
theorem IEnc.one {q : Nat → Prop} {w : World} : ∀ {A : Ins} {xs : List Value}, IEnc q w A xs → ∀ u ∈ xs, u.oneCell' = true := by
  intro A
  induction A with
  | nil => rintro xs rfl u hu; cases hu
  | cons a t s n h k r _ ihr =>
    rintro xs ⟨v, zs, rfl, h2, h3⟩ u hu
    simp only [List.mem_cons] at hu
    rcases hu with rfl | rfl | rfl | rfl | rfl | rfl | hu
    · rfl
    · rfl
    · rfl
    · rfl
    · rfl
    · exact h2.one
    · exact ihr h3 u hu
theorem BEnc.app {q : Nat → Prop} {w : World} : ∀ {A B : Bls} {xs ys : List Value}, BEnc q w A xs → BEnc q w B ys → BEnc q w (A.app B) (xs ++ ys) := by
  intro A
  induction A with
  | nil => rintro B xs ys rfl hb; exact hb
  | cons a l t i k r _ ihr =>
    rintro B xs ys ⟨u, v, zs, rfl, h2, h3, h4⟩ hb
    exact ⟨u, v, zs ++ ys, rfl, h2, h3, ihr h4 hb⟩
theorem BEnc.length {q : Nat → Prop} {w : World} : ∀ {A : Bls} {xs : List Value}, BEnc q w A xs → xs.length = A.len * 5 := by
  intro A
  induction A with
  | nil => rintro xs rfl; rfl
  | cons a l t i k r _ ihr =>
    rintro xs ⟨u, v, zs, rfl, h2, h3, h4⟩
    simp only [List.length_cons, ihr h4, Bls.len]
    omega
theorem BEnc.one {q : Nat → Prop} {w : World} : ∀ {A : Bls} {xs : List Value}, BEnc q w A xs → ∀ u ∈ xs, u.oneCell' = true := by
  intro A
  induction A with
  | nil => rintro xs rfl u hu; cases hu
  | cons a l t i k r _ ihr =>
    rintro xs ⟨u', v, zs, rfl, h2, h3, h4⟩ u hu
    simp only [List.mem_cons] at hu
    rcases hu with rfl | rfl | rfl | rfl | rfl | hu
    · rfl
    · rfl
    · rfl
    · exact h2.one
    · exact h3.one
    · exact ihr h4 u hu
def insS : Shp Ins := { len := Ins.len, app := Ins.app, sz := 6, enc := IEnc, nil := .nil, enc_nil := fun _ _ => rfl, len_nil := rfl, nil_of := fun _ => Ins.len_zero, on := fun h => IEnc.on h, join := IEnc.app, length := IEnc.length, ones := IEnc.one, len_app := Ins.len_app }
def blsS : Shp Bls := { len := Bls.len, app := Bls.app, sz := 5, enc := BEnc, nil := .nil, enc_nil := fun _ _ => rfl, len_nil := rfl, nil_of := fun _ => Bls.len_zero, on := fun h => BEnc.on h, join := BEnc.app, length := BEnc.length, ones := BEnc.one, len_app := Bls.len_app }
theorem tyI : Typ Tryd.prog 36 46 6 88 :=
  Typ.mk' (z := .agg #[.int .i64 0, .string ByteArray.empty, .int .i64 0, .string ByteArray.empty, .string ByteArray.empty, .slice none 0 0]) Tryd.underlying36 (by kernel_rfl) rfl (by decide)
theorem tyB : Typ Tryd.prog 25 50 5 80 :=
  Typ.mk' (z := .agg #[.int .i64 0, .int .i64 0, .string ByteArray.empty, .slice none 0 0, .slice none 0 0]) Tryd.underlying25 (by kernel_rfl) rfl (by decide)

/-- the cells of the first element, and where the rest begins -/
theorem IEnc.head {q : Nat → Prop} {w : World} {b o i : Nat} {a : Int} {t : ByteArray} {s : Int} {n h : ByteArray} {k r : Ins} {ys : List Value} (hA : At w b o ys) (hE : IEnc q w (.cons a t s n h k r) (ys.drop (i * 6))) :
    ∃ p c, w.cell? ⟨b, o + i * 6, none⟩ = some (.int .i64 a) ∧ w.cell? ⟨b, o + i * 6 + 1, none⟩ = some (.string t) ∧ w.cell? ⟨b, o + i * 6 + 2, none⟩ = some (.int .i64 s) ∧ w.cell? ⟨b, o + i * 6 + 3, none⟩ = some (.string n)
      ∧ w.cell? ⟨b, o + i * 6 + 4, none⟩ = some (.string h) ∧ w.cell? ⟨b, o + i * 6 + 5, none⟩ = some (.slice p k.len c) ∧ insS.sl q w (.slice p k.len c) k ∧ IEnc q w r (ys.drop ((i + 1) * 6)) := by
  obtain ⟨v, zs, h1, h2, h3⟩ := hE
  obtain ⟨p, c, rfl⟩ := h2.form
  have key : ∀ j u, (ys.drop (i * 6))[j]? = some u → w.cell? ⟨b, o + i * 6 + j, none⟩ = some u := by
    intro j u hu
    rw [List.getElem?_drop] at hu
    have := hA _ u hu
    rw [Nat.add_assoc]; exact this
  have e1 : ys.drop ((i + 1) * 6) = zs := by
    rw [Nat.add_mul, ← List.drop_drop, h1]; rfl
  rw [h1] at key
  exact ⟨p, c, key 0 _ rfl, key 1 _ rfl, key 2 _ rfl, key 3 _ rfl, key 4 _ rfl, key 5 _ rfl, h2, by rw [e1]; exact h3⟩
theorem BEnc.head {q : Nat → Prop} {w : World} {b o i : Nat} {a l : Int} {t : ByteArray} {n : Ins} {k r : Bls} {ys : List Value} (hA : At w b o ys) (hE : BEnc q w (.cons a l t n k r) (ys.drop (i * 5))) :
    ∃ p c p' c', w.cell? ⟨b, o + i * 5, none⟩ = some (.int .i64 a) ∧ w.cell? ⟨b, o + i * 5 + 1, none⟩ = some (.int .i64 l) ∧ w.cell? ⟨b, o + i * 5 + 2, none⟩ = some (.string t) ∧ w.cell? ⟨b, o + i * 5 + 3, none⟩ = some (.slice p n.len c)
      ∧ w.cell? ⟨b, o + i * 5 + 4, none⟩ = some (.slice p' k.len c') ∧ insS.sl q w (.slice p n.len c) n ∧ blsS.sl q w (.slice p' k.len c') k ∧ BEnc q w r (ys.drop ((i + 1) * 5)) := by
  obtain ⟨u, v, zs, h1, h2, h3, h4⟩ := hE
  obtain ⟨p, c, rfl⟩ := h2.form
  obtain ⟨p', c', rfl⟩ := h3.form
  have key : ∀ j u, (ys.drop (i * 5))[j]? = some u → w.cell? ⟨b, o + i * 5 + j, none⟩ = some u := by
    intro j u hu
    rw [List.getElem?_drop] at hu
    have := hA _ u hu
    rw [Nat.add_assoc]; exact this
  have e1 : ys.drop ((i + 1) * 5) = zs := by
    rw [Nat.add_mul, ← List.drop_drop, h1]; rfl
  rw [h1] at key
  exact ⟨p, c, p', c', key 0 _ rfl, key 1 _ rfl, key 2 _ rfl, key 3 _ rfl, key 4 _ rfl, h2, h3, by rw [e1]; exact h4⟩

theorem IEnc.tail {q : Nat → Prop} {w : World} {i : Nat} {a : Int} {t : ByteArray} {s : Int} {n h : ByteArray} {k r : Ins} {ys : List Value} (hE : IEnc q w (.cons a t s n h k r) (ys.drop (i * 6))) : IEnc q w r (ys.drop ((i + 1) * 6)) := by
  obtain ⟨v, zs, h1, h2, h3⟩ := hE
  have e1 : ys.drop ((i + 1) * 6) = zs := by
    rw [Nat.add_mul, ← List.drop_drop, h1]; rfl
  rw [e1]; exact h3
theorem BEnc.tail {q : Nat → Prop} {w : World} {i : Nat} {a l : Int} {t : ByteArray} {n : Ins} {k r : Bls} {ys : List Value} (hE : BEnc q w (.cons a l t n k r) (ys.drop (i * 5))) : BEnc q w r (ys.drop ((i + 1) * 5)) := by
  obtain ⟨u, v, zs, h1, h2, h3, h4⟩ := hE
  have e1 : ys.drop ((i + 1) * 5) = zs := by
    rw [Nat.add_mul, ← List.drop_drop, h1]; rfl
  rw [e1]; exact h4

theorem three_kinds {a : Int} (h : a = 2 ∨ a = 3 ∨ a = 4) : (a == 2) = true ∨ ((a == 2) = false ∧ (a == 3) = true) ∨ ((a == 2) = false ∧ (a == 3) = false ∧ (a == 4) = true) := by
  rcases h with rfl | rfl | rfl
  · exact .inl rfl
  · exact .inr (.inl ⟨rfl, rfl⟩)
  · exact .inr (.inr ⟨rfl, rfl, rfl⟩)
/-- one element, as the source of an append -/
theorem src_ins {q : Nat → Prop} {w : World} {a : Int} {t : ByteArray} {s : Int} {n h : ByteArray} {k : Ins} {v : Value} {ty : TypeId} (hk : insS.sl q w v k) :
    insS.src q (w.alloc (.cells #[.int .i64 a, .string t, .int .i64 s, .string n, .string h, v] ty)) (.slice (some ⟨w.heap.size, 0, none⟩) 1 1) (.cons a t s n h k .nil) :=
  ⟨_, Src.new w ty _ 1 1, v, [], rfl, insS.sl_on hk (Kept.alloc _), rfl⟩
theorem src_bls {q : Nat → Prop} {w : World} {a l : Int} {t : ByteArray} {n : Ins} {k : Bls} {u v : Value} {ty : TypeId} (hn : insS.sl q w u n) (hk : blsS.sl q w v k) :
    blsS.src q (w.alloc (.cells #[.int .i64 a, .int .i64 l, .string t, u, v] ty)) (.slice (some ⟨w.heap.size, 0, none⟩) 1 1) (.cons a l t n k .nil) :=
  ⟨_, Src.new w ty _ 1 1, u, v, [], rfl, insS.sl_on hn (Kept.alloc _), blsS.sl_on hk (Kept.alloc _), rfl⟩
theorem Known.six {w : World} {g : Nat} {ty : TypeId} {a b c d e f : Value} (h : Known w g ty #[a, b, c, d, e, f]) :
    w.cell? ⟨g, 0, none⟩ = some a ∧ w.cell? ⟨g, 1, none⟩ = some b ∧ w.cell? ⟨g, 2, none⟩ = some c ∧ w.cell? ⟨g, 3, none⟩ = some d ∧ w.cell? ⟨g, 4, none⟩ = some e ∧ w.cell? ⟨g, 5, none⟩ = some f :=
  ⟨h.cell 0, h.cell 1, h.cell 2, h.cell 3, h.cell 4, h.cell 5⟩
theorem Known.five {w : World} {g : Nat} {ty : TypeId} {a b c d e : Value} (h : Known w g ty #[a, b, c, d, e]) :
    w.cell? ⟨g, 0, none⟩ = some a ∧ w.cell? ⟨g, 1, none⟩ = some b ∧ w.cell? ⟨g, 2, none⟩ = some c ∧ w.cell? ⟨g, 3, none⟩ = some d ∧ w.cell? ⟨g, 4, none⟩ = some e :=
  ⟨h.cell 0, h.cell 1, h.cell 2, h.cell 3, h.cell 4⟩
theorem Known.four {w : World} {g : Nat} {ty : TypeId} {a b c d : Value} (h : Known w g ty #[a, b, c, d]) :
    w.cell? ⟨g, 0, none⟩ = some a ∧ w.cell? ⟨g, 1, none⟩ = some b ∧ w.cell? ⟨g, 2, none⟩ = some c ∧ w.cell? ⟨g, 3, none⟩ = some d :=
  ⟨h.cell 0, h.cell 1, h.cell 2, h.cell 3⟩
end Go.Proofs.YtibmemaciahofaaDoor
