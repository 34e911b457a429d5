/-
  The claim's own texts, packed. Conditions: those typed in each theorem.
-/
import Derived.Test.YthieinfonomeeaaGreatDoorZAab
import Derived.Deep.LoopGhost
import Derived.Deep.RegionHeld3
import Derived.Deep.DrawnRows
import Derived.Deep.Cut
import Derived.Deep.CutRange
import Derived.Maps.AppendAt
import Derived.Laws.AppendOwnNone
import Derived.OwnWalk
namespace Go.Proofs.YthieinfonomeeaaGreatDoor
open Go.RowKit
set_option linter.unusedVariables false
def At (w : World) (b o : Nat) (ys : List Value) : Prop := ∀ i u, ys[i]? = some u → w.cell? ⟨b, o + i, none⟩ = some u
def Sl (q : Nat → Prop) (w : World) (n : Nat) (E : List Value → Prop) (v : Value) : Prop :=
 ∃ p c, v = .slice p n c ∧ n ≤ c ∧ c ≤ maxLen ∧ (p = none → c = 0) ∧ (n = 0 ∨ ∃ b o ys, p = some ⟨b, o, none⟩ ∧ q b ∧ b < w.heap.size ∧ At w b o ys ∧ E ys)
def Kept (q q' : Nat → Prop) (w w' : World) : Prop := ∀ k, q k → k < w.heap.size → q' k ∧ w'.heap[k]? = w.heap[k]?
theorem Kept.lt {q q' : Nat → Prop} {w w' : World} (h : Kept q q' w w') {k : Nat} (hq : q k) (hk : k < w.heap.size) : k < w'.heap.size := by
 have := (h k hq hk).2
 rw [Array.getElem?_eq_getElem hk] at this
 exact (Array.getElem?_eq_some_iff.1 this).1
theorem Kept.below {q : Nat → Prop} {w w' : World} (h : Below w.heap.size w w') : Kept q q w w' := fun k hk hl => ⟨hk, h.block k hl⟩
theorem Kept.belowLt {q : Nat → Prop} {w w' : World} (h : Below w.heap.size w w') : Kept q (fun k => q k ∧ k < w.heap.size) w w' := fun k hk hl => ⟨⟨hk, hl⟩, h.block k hl⟩
theorem Kept.mono {q q' : Nat → Prop} {w : World} (h : ∀ k, q k → k < w.heap.size → q' k) : Kept q q' w w := fun k hk hl => ⟨h k hk hl, rfl⟩
theorem Kept.trans {q q' q'' : Nat → Prop} {w w' w'' : World} (h : Kept q q' w w') (h' : Kept q' q'' w' w'') : Kept q q'' w w'' := fun k hk hl =>
 ⟨(h' k (h k hk hl).1 (h.lt hk hl)).1, (h' k (h k hk hl).1 (h.lt hk hl)).2.trans (h k hk hl).2⟩
theorem Kept.put {q : Nat → Prop} {w : World} {g : Nat} (hg : ∀ k, q k → k ≠ g) (i : Nat) (u : Value) : Kept q q w (w.setCell ⟨g, i, none⟩ u) := fun k hk _ => ⟨hk, Below.heap_setCell _ _ _ _ (hg k hk)⟩
theorem Kept.alloc {q : Nat → Prop} {w : World} (o : Obj) : Kept q q w (w.alloc o) := Kept.below (below_new0 w o)
theorem Kept.grown {q : Nat → Prop} {w w' : World} {row : Option Nat} (h : w.grownBy w' row) (hq : ∀ k, q k → row ≠ some k) : Kept q q w w' := fun k hk hl => ⟨hk, h.block k hl (Ne.symm (hq k hk))⟩
theorem At.of_heap {w w' : World} {b o : Nat} {ys : List Value} (h : At w b o ys) (hb : w'.heap[b]? = w.heap[b]?) : At w' b o ys :=
 fun i u hu => (World.cell?_of_block (w := w) hb).trans (h i u hu)
theorem At.below {w w' : World} {b o : Nat} {ys : List Value} (h : At w b o ys) (hl : b < w.heap.size) (hb : Below w.heap.size w w') : At w' b o ys := h.of_heap (hb.block b hl)
theorem Sl.on {q q' : Nat → Prop} {w w' : World} {n : Nat} {E E' : List Value → Prop} {v : Value} (h : Sl q w n E v) (hq : Kept q q' w w') (hE : ∀ ys, E ys → E' ys) : Sl q' w' n E' v := by
 obtain ⟨p, c, h1, h2, h3, h4, h5⟩ := h
 refine ⟨p, c, h1, h2, h3, h4, ?_⟩
 rcases h5 with h5 | ⟨b, o, ys, h5, h6, h7, h8, h9⟩
 ·exact .inl h5
 ·exact .inr ⟨b, o, ys, h5, (hq b h6 h7).1, hq.lt h6 h7, h8.of_heap (hq b h6 h7).2, hE ys h9⟩
theorem Sl.one {q : Nat → Prop} {w : World} {n : Nat} {E : List Value → Prop} {v : Value} (h : Sl q w n E v) : v.oneCell' = true := by
 obtain ⟨p, c, rfl, _⟩ := h; rfl
theorem Sl.form {q : Nat → Prop} {w : World} {n : Nat} {E : List Value → Prop} {v : Value} (h : Sl q w n E v) : ∃ p c, v = .slice p n c := by
 obtain ⟨p, c, rfl, _⟩ := h; exact ⟨p, c, rfl⟩
theorem Sl.empty {q : Nat → Prop} {w : World} {E : List Value → Prop} : Sl q w 0 E (.slice none 0 0) := ⟨_, _, rfl, Nat.le_refl _, Nat.zero_le _, fun _ => rfl, .inl rfl⟩
def Src (w : World) (v : Value) (m : Nat) (ys : List Value) : Prop := ∃ p c, v = .slice p m c ∧ (p = none → m = 0 ∧ c = 0) ∧ ∀ a, p = some a → ∀ j u, ys[j]? = some u → w.cell? (a.add j) = some u
theorem add_at (b o j : Nat) : ((⟨b, o, none⟩ : Addr).add j) = ⟨b, o + j, none⟩ := by unfold Addr.add; split <;> simp_all
theorem at_add {w : World} {b o : Nat} {ys : List Value} (h : At w b o ys) : ∀ j u, ys[j]? = some u → w.cell? ((⟨b, o, none⟩ : Addr).add j) = some u := by
 intro j u hu
 rw [add_at]; exact h j u hu
theorem Sl.src {q : Nat → Prop} {w : World} {n : Nat} {E : List Value → Prop} {v : Value} (h : Sl q w n E v) (h0 : n = 0 → E []) : ∃ ys, Src w v n ys ∧ E ys := by
 obtain ⟨p, c, h1, h2, h3, h4, h5⟩ := h
 rcases h5 with h5 | ⟨b, o, ys, rfl, h6, h7, h8, h9⟩
 ·exact ⟨[], ⟨p, c, h1, fun hp => ⟨h5, h4 hp⟩, fun a _ j u hu => by simp at hu⟩, h0 h5⟩
 ·exact ⟨ys, ⟨_, c, h1, (fun hp => by cases hp), fun a ha => by obtain rfl := (Option.some.inj ha).symm; exact at_add h8⟩, h9⟩
theorem Src.new (w : World) (ty : TypeId) (cs : Array Value) (m c : Nat) : Src (w.alloc (.cells cs ty)) (.slice (some ⟨w.heap.size, 0, none⟩) m c) m cs.toList :=
 ⟨_, c, rfl, (fun h => by cases h), fun a ha j u hu => by
  obtain rfl := (Option.some.inj ha).symm
  rw [add_at, Nat.zero_add, (Known.made w ty cs).cell j]
  simpa using hu⟩
theorem own_at {w : World} {B e size n : Nat} {v : Value} {xs : List Value} {g : Nat} (h : w.ownsRow B e size v n xs) (hg : v.ownBlock = some g) : At w g 0 xs := by
 intro i u hu
 have h1 := h.cells hg i u hu
 rwa [add_at] at h1
theorem own_on {w w' : World} {B e size n : Nat} {v : Value} {xs : List Value} (h : w.ownsRow B e size v n xs) (hk : ∀ k, v.ownBlock = some k → w'.heap[k]? = w.heap[k]?) : w'.ownsRow B e size v n xs := by
 refine ⟨h.1, ?_⟩
 rcases h.2 with hn | ⟨g, cap, cur, rfl, hg, hgg, rest⟩
 ·exact .inl hn
 ·exact .inr ⟨g, cap, cur, rfl, hg, (hk g rfl).trans hgg, rest⟩
theorem Sl.of_own {q : Nat → Prop} {w : World} {B e size n : Nat} {v : Value} {xs : List Value} {E : List Value → Prop} (h : w.ownsRow B e size v n xs) (hE : E xs) (hq : ∀ k, v.ownBlock = some k → q k) : Sl q w n E v := by
 have hA := fun g => own_at (g := g) h
 have hl := h.lt
 rcases h.2 with ⟨rfl, h0⟩ | ⟨g, cap, cur, rfl, hb, hg, h1, h2, h3, h4⟩
 ·subst h0
  exact ⟨Option.none, 0, rfl, Nat.le_refl _, Nat.zero_le _, fun _ => rfl, .inl rfl⟩
 ·exact ⟨_, cap, rfl, h1, h2, (fun h => by cases h), .inr ⟨g, 0, xs, rfl, hq g rfl, (hl g rfl).2, hA g rfl, hE⟩⟩
theorem run_append_src {P : Program} (w : World) (t ty : TypeId) (base : Nat) (e : TypeId) (i : TypeInfo) (z : Value) (size bytes : Nat) (ht : P.underlying t = some (.slice e)) (hi : P.info? e = some i) (hz : i.zero = some z)
  (hsize : i.size = size) (hby : i.bytes = bytes) (hzs : z.cells.size = size) (hsz : 0 < size)
  (v : Value) (n : Nat) (xs : List Value) (hown : w.ownsRow base e size v n xs)
  (sv : Value) (m : Nat) (news : List Value) (hsrc : Src w sv m news) (hl : news.length = m * size) (h1 : ∀ u ∈ news, u.oneCell' = true)
  (h63 : n + m ≤ maxLen) (hbytes : (n + m) * bytes ≤ 140737488355328) (hbase : base ≤ w.heap.size) :
  ∃ v' w', (Builtin.append_ #[t, t] ty #[v, sv]).run P w = .ok v' w' ∧ w'.ownsRow base e size v' (n + m) (xs ++ news) ∧ w.grownBy w' v.ownBlock ∧ (v'.ownBlock = v.ownBlock ∨ v'.ownBlock = some w.heap.size) := by
 obtain ⟨p, c, rfl, hn, hc⟩ := hsrc
 cases p with
 | some ad =>
   obtain ⟨v', w', h2, h3, h4, _, h6⟩ := run_append_own_at (P := P) w base t ty e i z size bytes ht hi hz hsize hby hzs hsz v n xs hown ad m c news hl (hc ad rfl) h1 h63 hbytes hbase
   exact ⟨v', w', h2, h3, h4, h6⟩
 | none =>
   obtain ⟨rfl, rfl⟩ := hn rfl
   have : news = [] := List.eq_nil_of_length_eq_zero (by simpa using hl)
   subst this
   exact ⟨v, w, run_append_owned_none w base t ty e i size ht hi v n xs hown, by simpa using hown, ⟨rfl, rfl, rfl, Nat.le_refl _, fun _ _ _ => rfl⟩, .inl rfl⟩
structure Shp (α : Type) where
 len : α → Nat
 app : α → α → α
 sz : Nat
 enc : (Nat → Prop) → World → α → List Value → Prop
 nil : α
 enc_nil : ∀ q w, enc q w nil []
 len_nil : len nil = 0
 nil_of : ∀ L, len L = 0 → L = nil
 on : ∀ {q q' : Nat → Prop} {w w' : World} {L : α} {xs : List Value}, Kept q q' w w' → enc q w L xs → enc q' w' L xs
 join : ∀ {q : Nat → Prop} {w : World} {A B : α} {xs ys : List Value}, enc q w A xs → enc q w B ys → enc q w (app A B) (xs ++ ys)
 length : ∀ {q : Nat → Prop} {w : World} {A : α} {xs : List Value}, enc q w A xs → xs.length = len A * sz
 ones : ∀ {q : Nat → Prop} {w : World} {A : α} {xs : List Value}, enc q w A xs → ∀ u ∈ xs, u.oneCell' = true
 len_app : ∀ A B : α, len (app A B) = len A + len B
namespace Shp
variable {α : Type} (S : Shp α)
def sl (q : Nat → Prop) (w : World) (v : Value) (L : α) : Prop := Sl q w (S.len L) (S.enc q w L) v
theorem sl_on {q q' : Nat → Prop} {w w' : World} {v : Value} {L : α} (h : S.sl q w v L) (hq : Kept q q' w w') : S.sl q' w' v L := Sl.on h hq fun _ => S.on hq
def kind (q : Nat → Prop) (B : Nat) (v : Value) (k : Nat) : Prop := (q k ∨ B ≤ k) ∧ v.ownBlock ≠ some k
def own (e : TypeId) (q : Nat → Prop) (B : Nat) (w : World) (v : Value) (L : α) : Prop := ∃ xs, w.ownsRow B e S.sz v (S.len L) xs ∧ S.enc (kind q B v) w L xs
variable {S} {e : TypeId} {q : Nat → Prop} {B : Nat} {w w' : World} {v : Value} {L : α}
theorem own.nil : S.own e q B w (.slice none 0 0) S.nil := ⟨[], by rw [S.len_nil]; exact World.ownsRow_nil _ _ _ _, S.enc_nil _ _⟩
theorem own.lt (h : S.own e q B w v L) : ∀ k, v.ownBlock = some k → B ≤ k ∧ k < w.heap.size := h.choose_spec.1.lt
theorem own.on (h : S.own e q B w v L) (hk : ∀ k, k < w.heap.size → w'.heap[k]? = w.heap[k]?) : S.own e q B w' v L := by
 have hl := h.lt
 obtain ⟨xs, h1, h2⟩ := h
 exact ⟨xs, own_on h1 (fun k hq => hk k (hl k hq).2), S.on (fun k hq hl => ⟨hq, hk k hl⟩) h2⟩
theorem own.below (h : S.own e q B w v L) (hb : Below w.heap.size w w') : S.own e q B w' v L := h.on fun k hk => hb.block k hk
theorem own.form (h : S.own e q B w v L) : ∃ p c, v = .slice p (S.len L) c := by
 obtain ⟨xs, h1, _⟩ := h
 rcases h1.2 with ⟨rfl, h0⟩ | ⟨g, cap, cur, rfl, _⟩
 ·exact ⟨_, _, by rw [h0]⟩
 ·exact ⟨_, _, rfl⟩
theorem own.sl (h : S.own e q B w v L) : S.sl (fun k => q k ∨ B ≤ k) w v L := by
 have hl := h.lt
 obtain ⟨xs, h1, h2⟩ := h
 exact Sl.of_own h1 (S.on (Kept.mono fun k hk _ => hk.1) h2) (fun k hk => .inr (hl k hk).1)
variable (S) in
def src (q : Nat → Prop) (w : World) (v : Value) (L : α) : Prop := ∃ ys, Src w v (S.len L) ys ∧ S.enc q w L ys
theorem src_of (h : S.sl q w v L) : S.src q w v L := by
 have := Sl.src h (fun h0 => by rw [S.nil_of L h0]; exact S.enc_nil _ _)
 exact this
variable (S) in
def rest (q : Nat → Prop) (w : World) (p : Option Addr) (i : Nat) (R : α) : Prop := R = S.nil ∨ ∃ b o ys, p = some ⟨b, o, Option.none⟩ ∧ q b ∧ b < w.heap.size ∧ At w b o ys ∧ S.enc q w R (ys.drop (i * S.sz))
theorem rest_start {p : Option Addr} {n c : Nat} (h : S.sl q w (.slice p n c) L) : S.rest q w p 0 L ∧ n = S.len L ∧ n ≤ c ∧ c ≤ 9223372036854775807 := by
 obtain ⟨p', c', h1, h2, h3, h4, h5⟩ := h
 injection h1 with e1 e2 e3
 subst e1 e2 e3
 refine ⟨?_, rfl, h2, h3⟩
 rcases h5 with h5 | ⟨b, o, ys, h5, h6, h7, h8, h9⟩
 ·exact .inl (S.nil_of L h5)
 ·exact .inr ⟨b, o, ys, h5, h6, h7, h8, by rw [Nat.zero_mul]; exact h9⟩
end Shp
theorem below_then {w w1 w2 : World} (h : Below w.heap.size w w1) (k : Below w1.heap.size w1 w2) : Below w.heap.size w w2 := h.trans (k.mono h.size)
theorem kind_new {q : Nat → Prop} {B : Nat} {V : World} {v : Value} (hl : ∀ k, v.ownBlock = some k → B ≤ k ∧ k < V.heap.size) (hB : B ≤ V.heap.size) (hq : ∀ k, q k → k < B) (k : Nat) (h : q k ∨ V.heap.size ≤ k) : Shp.kind q B v k := by
 refine ⟨?_, fun e => ?_⟩
 ·rcases h with h | h
  ·exact .inl h
  ·exact .inr (Nat.le_trans hB h)
 ·have := hl k e
  rcases h with h | h
  ·have := hq k h; omega
  ·omega
structure Typ (P : Program) (t e : TypeId) (size bytes : Nat) : Prop where
 und : P.underlying t = some (.slice e)
 inf : ∃ i z, P.info? e = some i ∧ i.zero = some z ∧ i.size = size ∧ i.bytes = bytes ∧ z.cells.size = size
 pos : 0 < size
theorem Typ.mk' {P : Program} {t e : TypeId} {z : Value} {size bytes : Nat} (ht : P.underlying t = some (.slice e)) (h : (P.info? e).map (fun i => (i.zero, i.size, i.bytes)) = some (some z, size, bytes)) (hz : z.cells.size = size) (hp : 0 < size) : Typ P t e size bytes := by
 obtain ⟨i, h1, h2, h3, h4⟩ := info_parts h
 exact ⟨ht, ⟨i, z, h1, h2, h3, h4, hz⟩, hp⟩
theorem run_append_shp {P : Program} {α : Type} (S : Shp α) {t e bytes : Nat} (T : Typ P t e S.sz bytes) (w : World) (ty : TypeId)
  {q : Nat → Prop} {B : Nat} {v : Value} {L : α} (hown : S.own e q B w v L) {sv : Value} {M : α} (hsrc : S.src (Shp.kind q B v) w sv M)
  (hlen : (S.len L + S.len M) * (bytes + 1) ≤ 140737488355328) (hbase : B ≤ w.heap.size) :
  ∃ v' w', (Builtin.append_ #[t, t] ty #[v, sv]).run P w = .ok v' w' ∧ S.own e q B w' v' (S.app L M) ∧ w.grownBy w' v.ownBlock ∧ (∀ A, Below B A w → Below B A w') ∧ Kept (Shp.kind q B v) (Shp.kind q B v') w w' := by
 obtain ⟨i, z, hi, hz, hsize, hby, hzs⟩ := T.inf
 have hl := hown.lt
 obtain ⟨xs, h1, h2⟩ := hown
 obtain ⟨ys, h3, h4⟩ := hsrc
 have hb1 : (S.len L + S.len M) * bytes ≤ 140737488355328 := Nat.le_trans (Nat.mul_le_mul_left _ (Nat.le_succ _)) hlen
 have hb2 : S.len L + S.len M ≤ 140737488355328 := Nat.le_trans (Nat.le_mul_of_pos_right _ (Nat.succ_pos _)) hlen
 obtain ⟨v', w', h0, h5, h6, h7⟩ := run_append_src (P := P) w t ty B e i z S.sz bytes T.und hi hz hsize hby hzs T.pos v (S.len L) xs h1 sv (S.len M) ys h3 (S.length h4) (S.ones h4) (by unfold maxLen; omega) hb1 hbase
 have hkind : Kept (Shp.kind q B v) (Shp.kind q B v') w w' := by
  refine fun k hk hlt => ⟨⟨hk.1, ?_⟩, h6.block k hlt (Ne.symm hk.2)⟩
  rcases h7 with h7 | h7
  ·rw [h7]; exact hk.2
  ·rw [h7]; intro e; injection e; omega
 exact ⟨v', w', h0, ⟨xs ++ ys, by rw [S.len_app]; exact h5, S.on hkind (S.join h2 h4)⟩, h6, fun A hA => hA.grown h6 hbase (fun k hk => (hl k hk).1), hkind⟩
theorem wp_append_shp {P : Program} {α : Type} (S : Shp α) {t e bytes : Nat} (T : Typ P t e S.sz bytes) (w : World) {o : Oper} {a : Act} {K : Act → World → Prop} {Q : Exit → Act → World → Prop} (s x : Operand)
  (ho : o.op = .call { callee := .builtin .append, args := #[s, x], argTypes := #[t, t] })
  {q : Nat → Prop} {B : Nat} {v : Value} {L : α} (hown : S.own e q B w v L) (hs : a.eval s = v) {sv : Value} {M : α} (hsrc : S.src (Shp.kind q B v) w sv M) (hx : a.eval x = sv)
  (hlen : (S.len L + S.len M) * (bytes + 1) ≤ 140737488355328) (hbase : B ≤ w.heap.size)
  (h : ∀ v' w', S.own e q B w' v' (S.app L M) → w.grownBy w' v.ownBlock → (∀ A, Below B A w → Below B A w') → Kept (Shp.kind q B v) (Shp.kind q B v') w w' → K (a.put o.dst v') w') : o.wp P a w K Q := by
 obtain ⟨v', w', hr, h2, h3, h4, h5⟩ := run_append_shp (P := P) S T w o.type hown hsrc hlen hbase
 unfold Oper.wp execOp
 simp only [ho, resolve, invoke, builtin, Sem.run_bind, Sem.run_pure, Result.andThen_ok, List.map_toArray, List.map_cons, List.map_nil, hs, hx, hr]
 exact h v' w' h2 h3 h4 h5
theorem append_shp {P : Program} {α : Type} (S : Shp α) {t e bytes : Nat} (T : Typ P t e S.sz bytes) (w : World) {ops : Array Oper} {rest : List Oper} {o : Oper} {a : Act} {Q : Exit → Act → World → Prop} (hgd : o.guard = none) (s x : Operand)
  (ho : o.op = .call { callee := .builtin .append, args := #[s, x], argTypes := #[t, t] })
  {q : Nat → Prop} {B : Nat} {v : Value} {L : α} (hown : S.own e q B w v L) (hs : a.eval s = v) {sv : Value} {M : α} (hsrc : S.src (Shp.kind q B v) w sv M) (hx : a.eval x = sv)
  (hlen : (S.len L + S.len M) * (bytes + 1) ≤ 140737488355328) (hbase : B ≤ w.heap.size)
  (h : ∀ v' w', S.own e q B w' v' (S.app L M) → w.grownBy w' v.ownBlock → (∀ A, Below B A w → Below B A w') → Kept (Shp.kind q B v) (Shp.kind q B v') w w' → wpList P ops Q rest (a.put o.dst v') w') :
  wpList P ops Q (o :: rest) a w :=
 wpList_plain hgd fun _ hK => wp_append_shp S T w s x ho hown hs hsrc hx hlen hbase fun v' w' h2 h3 h4 h5 => hK _ _ (h v' w' h2 h3 h4 h5)
theorem step_append_shp {P : Program} {α : Type} (S : Shp α) {t e bytes : Nat} (T : Typ P t e S.sz bytes) (w : World) {ops : Array Oper} {o : Oper} {a : Act} {K : Act → World → Prop} {Q : Exit → Act → World → Prop} {E : Prop} (hgd : o.guard = none) (s x : Operand)
  (ho : o.op = .call { callee := .builtin .append, args := #[s, x], argTypes := #[t, t] })
  {q : Nat → Prop} {B : Nat} {v : Value} {L : α} (hown : S.own e q B w v L) (hs : a.eval s = v) {sv : Value} {M : α} (hsrc : S.src (Shp.kind q B v) w sv M) (hx : a.eval x = sv)
  (hlen : (S.len L + S.len M) * (bytes + 1) ≤ 140737488355328) (hbase : B ≤ w.heap.size)
  (h : ∀ v' w', S.own e q B w' v' (S.app L M) → w.grownBy w' v.ownBlock → (∀ A, Below B A w → Below B A w') → Kept (Shp.kind q B v) (Shp.kind q B v') w w' → K (a.put o.dst v') w') :
  if Region.wanted o (yielded ops a.tmps) = true then Oper.wp P o a w K Q else E := by
 have hw : Region.wanted o (yielded ops a.tmps) = true := by simp [Region.wanted, hgd]
 rw [if_pos hw]
 exact wp_append_shp S T w s x ho hown hs hsrc hx hlen hbase h
end Go.Proofs.YthieinfonomeeaaGreatDoor
namespace Go.Proofs.YthieinfonomeeaaGreatDoor
open Go.RowKit Doc
set_option linter.unusedVariables false
def IEnc (q : Nat → Prop) (w : World) : Ins → List Value → Prop
 | .nil, xs => xs = []
 | .cons a t s n h k r, xs => ∃ v zs, xs = .int .i64 a :: .string t :: .int .i64 s :: .string n :: .string h :: v :: zs ∧ Sl q w k.len (IEnc q w k) v ∧ IEnc q w r zs
def BEnc (q : Nat → Prop) (w : World) : Bls → List Value → Prop
 | .nil, xs => xs = []
 | .cons a l t i k r, xs => ∃ u v zs, xs = .int .i64 a :: .int .i64 l :: .string t :: u :: v :: zs ∧ Sl q w i.len (IEnc q w i) u ∧ Sl q w k.len (BEnc q w k) v ∧ BEnc q w r zs
theorem IEnc.on {q q' : Nat → Prop} {w w' : World} (hq : Kept q q' w w') : ∀ {L : Ins} {xs : List Value}, IEnc q w L xs → IEnc q' w' L xs := by
 intro L
 induction L with
 | nil => intro xs h; exact h
 | cons a t s n h k r ihk ihr =>
   rintro xs ⟨v, zs, h1, h2, h3⟩
   exact ⟨v, zs, h1, h2.on hq (fun ys => ihk), ihr h3⟩
theorem BEnc.on {q q' : Nat → Prop} {w w' : World} (hq : Kept q q' w w') : ∀ {L : Bls} {xs : List Value}, BEnc q w L xs → BEnc q' w' L xs := by
 intro L
 induction L with
 | nil => intro xs h; exact h
 | cons a l t i k r ihk ihr =>
   rintro xs ⟨u, v, zs, h1, h2, h3, h4⟩
   exact ⟨u, v, zs, h1, h2.on hq (fun ys => IEnc.on hq), h3.on hq (fun ys => ihk), ihr h4⟩
theorem IEnc.app {q : Nat → Prop} {w : World} : ∀ {A B : Ins} {xs ys : List Value}, IEnc q w A xs → IEnc q w B ys → IEnc q w (A.app B) (xs ++ ys) := by
 intro A
 induction A with
 | nil => rintro B xs ys rfl hb; exact hb
 | cons a t s n h k r _ ihr =>
   rintro B xs ys ⟨v, zs, rfl, h2, h3⟩ hb
   exact ⟨v, zs ++ ys, rfl, h2, ihr h3 hb⟩
theorem IEnc.length {q : Nat → Prop} {w : World} : ∀ {A : Ins} {xs : List Value}, IEnc q w A xs → xs.length = A.len * 6 := by
 intro A
 induction A with
 | nil => rintro xs rfl; rfl
 | cons a t s n h k r _ ihr =>
   rintro xs ⟨v, zs, rfl, h2, h3⟩
   simp only [List.length_cons, ihr h3, Ins.len]
   omega
theorem IEnc.one {q : Nat → Prop} {w : World} : ∀ {A : Ins} {xs : List Value}, IEnc q w A xs → ∀ u ∈ xs, u.oneCell' = true := by
 intro A
 induction A with
 | nil => rintro xs rfl u hu; cases hu
 | cons a t s n h k r _ ihr =>
   rintro xs ⟨v, zs, rfl, h2, h3⟩ u hu
   simp only [List.mem_cons] at hu
   rcases hu with rfl | rfl | rfl | rfl | rfl | rfl | hu
   ·rfl
   ·rfl
   ·rfl
   ·rfl
   ·rfl
   ·exact h2.one
   ·exact ihr h3 u hu
theorem BEnc.app {q : Nat → Prop} {w : World} : ∀ {A B : Bls} {xs ys : List Value}, BEnc q w A xs → BEnc q w B ys → BEnc q w (A.app B) (xs ++ ys) := by
 intro A
 induction A with
 | nil => rintro B xs ys rfl hb; exact hb
 | cons a l t i k r _ ihr =>
   rintro B xs ys ⟨u, v, zs, rfl, h2, h3, h4⟩ hb
   exact ⟨u, v, zs ++ ys, rfl, h2, h3, ihr h4 hb⟩
theorem BEnc.length {q : Nat → Prop} {w : World} : ∀ {A : Bls} {xs : List Value}, BEnc q w A xs → xs.length = A.len * 5 := by
 intro A
 induction A with
 | nil => rintro xs rfl; rfl
 | cons a l t i k r _ ihr =>
   rintro xs ⟨u, v, zs, rfl, h2, h3, h4⟩
   simp only [List.length_cons, ihr h4, Bls.len]
   omega
theorem BEnc.one {q : Nat → Prop} {w : World} : ∀ {A : Bls} {xs : List Value}, BEnc q w A xs → ∀ u ∈ xs, u.oneCell' = true := by
 intro A
 induction A with
 | nil => rintro xs rfl u hu; cases hu
 | cons a l t i k r _ ihr =>
   rintro xs ⟨u', v, zs, rfl, h2, h3, h4⟩ u hu
   simp only [List.mem_cons] at hu
   rcases hu with rfl | rfl | rfl | rfl | rfl | hu
   ·rfl
   ·rfl
   ·rfl
   ·exact h2.one
   ·exact h3.one
   ·exact ihr h4 u hu
def insS : Shp Ins := { len := Ins.len, app := Ins.app, sz := 6, enc := IEnc, nil := .nil, enc_nil := fun _ _ => rfl, len_nil := rfl, nil_of := fun _ => Ins.len_zero, on := fun h => IEnc.on h, join := IEnc.app, length := IEnc.length, ones := IEnc.one, len_app := Ins.len_app }
def blsS : Shp Bls := { len := Bls.len, app := Bls.app, sz := 5, enc := BEnc, nil := .nil, enc_nil := fun _ _ => rfl, len_nil := rfl, nil_of := fun _ => Bls.len_zero, on := fun h => BEnc.on h, join := BEnc.app, length := BEnc.length, ones := BEnc.one, len_app := Bls.len_app }
theorem tyI : Typ Tryz.prog 42 56 6 88 :=
 Typ.mk' (z := .agg #[.int .i64 0, .string ByteArray.empty, .int .i64 0, .string ByteArray.empty, .string ByteArray.empty, .slice none 0 0]) Tryz.underlying42 (by kernel_rfl) rfl (by decide)
theorem tyB : Typ Tryz.prog 23 44 5 80 :=
 Typ.mk' (z := .agg #[.int .i64 0, .int .i64 0, .string ByteArray.empty, .slice none 0 0, .slice none 0 0]) Tryz.underlying23 (by kernel_rfl) rfl (by decide)
theorem IEnc.head {q : Nat → Prop} {w : World} {b o i : Nat} {a : Int} {t : ByteArray} {s : Int} {n h : ByteArray} {k r : Ins} {ys : List Value} (hA : At w b o ys) (hE : IEnc q w (.cons a t s n h k r) (ys.drop (i * 6))) :
  ∃ p c, w.cell? ⟨b, o + i * 6, none⟩ = some (.int .i64 a) ∧ w.cell? ⟨b, o + i * 6 + 1, none⟩ = some (.string t) ∧ w.cell? ⟨b, o + i * 6 + 2, none⟩ = some (.int .i64 s) ∧ w.cell? ⟨b, o + i * 6 + 3, none⟩ = some (.string n)
   ∧ w.cell? ⟨b, o + i * 6 + 4, none⟩ = some (.string h) ∧ w.cell? ⟨b, o + i * 6 + 5, none⟩ = some (.slice p k.len c) ∧ insS.sl q w (.slice p k.len c) k ∧ IEnc q w r (ys.drop ((i + 1) * 6)) := by
 obtain ⟨v, zs, h1, h2, h3⟩ := hE
 obtain ⟨p, c, rfl⟩ := h2.form
 have key : ∀ j u, (ys.drop (i * 6))[j]? = some u → w.cell? ⟨b, o + i * 6 + j, none⟩ = some u := by
  intro j u hu
  rw [List.getElem?_drop] at hu
  have := hA _ u hu
  rw [Nat.add_assoc]; exact this
 have e1 : ys.drop ((i + 1) * 6) = zs := by
  rw [Nat.add_mul, ← List.drop_drop, h1]; rfl
 rw [h1] at key
 exact ⟨p, c, key 0 _ rfl, key 1 _ rfl, key 2 _ rfl, key 3 _ rfl, key 4 _ rfl, key 5 _ rfl, h2, by rw [e1]; exact h3⟩
theorem BEnc.head {q : Nat → Prop} {w : World} {b o i : Nat} {a l : Int} {t : ByteArray} {n : Ins} {k r : Bls} {ys : List Value} (hA : At w b o ys) (hE : BEnc q w (.cons a l t n k r) (ys.drop (i * 5))) :
  ∃ p c p' c', w.cell? ⟨b, o + i * 5, none⟩ = some (.int .i64 a) ∧ w.cell? ⟨b, o + i * 5 + 1, none⟩ = some (.int .i64 l) ∧ w.cell? ⟨b, o + i * 5 + 2, none⟩ = some (.string t) ∧ w.cell? ⟨b, o + i * 5 + 3, none⟩ = some (.slice p n.len c)
   ∧ w.cell? ⟨b, o + i * 5 + 4, none⟩ = some (.slice p' k.len c') ∧ insS.sl q w (.slice p n.len c) n ∧ blsS.sl q w (.slice p' k.len c') k ∧ BEnc q w r (ys.drop ((i + 1) * 5)) := by
 obtain ⟨u, v, zs, h1, h2, h3, h4⟩ := hE
 obtain ⟨p, c, rfl⟩ := h2.form
 obtain ⟨p', c', rfl⟩ := h3.form
 have key : ∀ j u, (ys.drop (i * 5))[j]? = some u → w.cell? ⟨b, o + i * 5 + j, none⟩ = some u := by
  intro j u hu
  rw [List.getElem?_drop] at hu
  have := hA _ u hu
  rw [Nat.add_assoc]; exact this
 have e1 : ys.drop ((i + 1) * 5) = zs := by
  rw [Nat.add_mul, ← List.drop_drop, h1]; rfl
 rw [h1] at key
 exact ⟨p, c, p', c', key 0 _ rfl, key 1 _ rfl, key 2 _ rfl, key 3 _ rfl, key 4 _ rfl, h2, h3, by rw [e1]; exact h4⟩
theorem IEnc.tail {q : Nat → Prop} {w : World} {i : Nat} {a : Int} {t : ByteArray} {s : Int} {n h : ByteArray} {k r : Ins} {ys : List Value} (hE : IEnc q w (.cons a t s n h k r) (ys.drop (i * 6))) : IEnc q w r (ys.drop ((i + 1) * 6)) := by
 obtain ⟨v, zs, h1, h2, h3⟩ := hE
 have e1 : ys.drop ((i + 1) * 6) = zs := by
  rw [Nat.add_mul, ← List.drop_drop, h1]; rfl
 rw [e1]; exact h3
theorem BEnc.tail {q : Nat → Prop} {w : World} {i : Nat} {a l : Int} {t : ByteArray} {n : Ins} {k r : Bls} {ys : List Value} (hE : BEnc q w (.cons a l t n k r) (ys.drop (i * 5))) : BEnc q w r (ys.drop ((i + 1) * 5)) := by
 obtain ⟨u, v, zs, h1, h2, h3, h4⟩ := hE
 have e1 : ys.drop ((i + 1) * 5) = zs := by
  rw [Nat.add_mul, ← List.drop_drop, h1]; rfl
 rw [e1]; exact h4
theorem three_kinds {a : Int} (h : a = 2 ∨ a = 3 ∨ a = 4) : (a == 2) = true ∨ ((a == 2) = false ∧ (a == 3) = true) ∨ ((a == 2) = false ∧ (a == 3) = false ∧ (a == 4) = true) := by
 rcases h with rfl | rfl | rfl
 ·exact .inl rfl
 ·exact .inr (.inl ⟨rfl, rfl⟩)
 ·exact .inr (.inr ⟨rfl, rfl, rfl⟩)
theorem src_bls {q : Nat → Prop} {w : World} {a l : Int} {t : ByteArray} {n : Ins} {k : Bls} {u v : Value} {ty : TypeId} (hn : insS.sl q w u n) (hk : blsS.sl q w v k) :
  blsS.src q (w.alloc (.cells #[.int .i64 a, .int .i64 l, .string t, u, v] ty)) (.slice (some ⟨w.heap.size, 0, none⟩) 1 1) (.cons a l t n k .nil) :=
 ⟨_, Src.new w ty _ 1 1, u, v, [], rfl, insS.sl_on hn (Kept.alloc _), blsS.sl_on hk (Kept.alloc _), rfl⟩
theorem Known.six {w : World} {g : Nat} {ty : TypeId} {a b c d e f : Value} (h : Known w g ty #[a, b, c, d, e, f]) :
  w.cell? ⟨g, 0, none⟩ = some a ∧ w.cell? ⟨g, 1, none⟩ = some b ∧ w.cell? ⟨g, 2, none⟩ = some c ∧ w.cell? ⟨g, 3, none⟩ = some d ∧ w.cell? ⟨g, 4, none⟩ = some e ∧ w.cell? ⟨g, 5, none⟩ = some f :=
 ⟨h.cell 0, h.cell 1, h.cell 2, h.cell 3, h.cell 4, h.cell 5⟩
theorem Known.five {w : World} {g : Nat} {ty : TypeId} {a b c d e : Value} (h : Known w g ty #[a, b, c, d, e]) :
  w.cell? ⟨g, 0, none⟩ = some a ∧ w.cell? ⟨g, 1, none⟩ = some b ∧ w.cell? ⟨g, 2, none⟩ = some c ∧ w.cell? ⟨g, 3, none⟩ = some d ∧ w.cell? ⟨g, 4, none⟩ = some e :=
 ⟨h.cell 0, h.cell 1, h.cell 2, h.cell 3, h.cell 4⟩
theorem Known.four {w : World} {g : Nat} {ty : TypeId} {a b c d : Value} (h : Known w g ty #[a, b, c, d]) :
  w.cell? ⟨g, 0, none⟩ = some a ∧ w.cell? ⟨g, 1, none⟩ = some b ∧ w.cell? ⟨g, 2, none⟩ = some c ∧ w.cell? ⟨g, 3, none⟩ = some d :=
 ⟨h.cell 0, h.cell 1, h.cell 2, h.cell 3⟩
end Go.Proofs.YthieinfonomeeaaGreatDoor
namespace Go.Proofs.YthieinfonomeeaaGreatDoor
open Go.RowKit Doc
set_option linter.unusedVariables false
attribute [local go_sem ↓] Go.wp_at_zero Go.wp_at_succ
set_option maxRecDepth 20000 in
set_option maxHeartbeats 1000000 in
theorem same_any : ∀ (N : Nat) (q q' : Nat → Prop) (L : Ins) (p : Option Addr) (c : Nat) (p' : Option Addr) (c' : Nat) (w : World), L.size < N → L.size ≤ 1000000 → insS.sl q w (.slice p L.len c) L → insS.sl q' w (.slice p' L.len c') L →
  Calls Tryz.prog 32 #[.slice p L.len c, .slice p' L.len c'] w fun e w' => e = .returned (.bool true) ∧ Below w.heap.size w w' := by
 intro N
 induction N with
 | zero => intro q q' L p c p' c' w hN; exact absurd hN (Nat.not_lt_zero _)
 | succ N ih =>
   intro q q' L p c p' c' w hN hM hv hv'
   obtain ⟨hF, -, hnc, hc⟩ := Shp.rest_start hv
   obtain ⟨hF', -, hnc', hc'⟩ := Shp.rest_start hv'
   have hlen := L.len_size
   obtain ⟨n, hn⟩ : ∃ n, n = L.len := ⟨_, rfl⟩
   rw [← hn] at hlen hnc hnc' ⊢
   have HN := Lib.hid hn
   clear hn hv hv'
   go_enter Tryz.func32, Tryz.ntmps32
   go_wp2_with fail
   go_loopg [5] (n + 1) (fun g s5 wr => ∃ (A R : Ins), A.app R = L ∧ A.len + R.len = n ∧ R.len < g ∧ s5 = .int .i64 A.len ∧ Below w.heap.size w wr ∧ insS.rest q w p A.len R ∧ insS.rest q' w p' A.len R)
   case atStart => exact ⟨.nil, L, rfl, by simp [Ins.len]; exact HN.out.symm, by rw [← HN.out]; omega, rfl, Below.refl _ _, hF, hF'⟩
   case round =>
    obtain ⟨A, R, hAR, hi1, hg, rfl, hb, hR, hR'⟩ := hrel
    have HAR := Lib.hid hAR
    generalize hi : A.len = i at *
    have HI := Lib.hid hi
    clear hAR hi
    cases R with
    | nil =>
      have g1 : decide (i < n) = false := by simp [Ins.len] at hi1; simp; omega
      clear hi1 hR hR'
      go_wp2_with fail
      go_ret
      exact ⟨rfl, hb⟩
    | cons a t s m h k r =>
      rcases hR with hR | ⟨b, o, ys, rfl, hqb, hbl, hA, hE⟩
      ·cases hR
      rcases hR' with hR' | ⟨b', o', ys', rfl, hqb', hbl', hA', hE'⟩
      ·cases hR'
      obtain ⟨kp, kc, c0, c1, c2, c3, c4, c5, hk, hr⟩ := hE.head hA
      obtain ⟨kp', kc', d0, d1, d2, d3, d4, d5, hk', hr'⟩ := hE'.head hA'
      have hsz : L.size = A.size + (k.size + r.size + 1) := by rw [← HAR.out, Ins.size_app]; simp only [Ins.size]
      have hks : k.size < N := by omega
      have hks2 : k.size ≤ 1000000 := by omega
      have hT : insS.rest q w (some ⟨b, o, none⟩) (i + 1) r := .inr ⟨b, o, ys, rfl, hqb, hbl, hA, hE.tail⟩
      have hT' : insS.rest q' w (some ⟨b', o', none⟩) (i + 1) r := .inr ⟨b', o', ys', rfl, hqb', hbl', hA', hE'.tail⟩
      have HT := Lib.hid hT
      have HT' := Lib.hid hT'
      have g1 : decide (i < n) = true := by simp [Ins.len] at hi1; simp; omega
      have hin : i < n := by simp [Ins.len] at hi1; omega
      have HG := Lib.hid hi1
      have HGG := Lib.hid hg
      have hsame := fun W (hW : Below w.heap.size w W) => ih q q' k kp kc kp' kc' W hks hks2 (insS.sl_on hk (Kept.below hW)) (insS.sl_on hk' (Kept.below hW))
      have cc := fun j u (hc : w.cell? ⟨b, o + i * 6 + j, none⟩ = some u) => (hb.cell (p := ⟨b, o + i * 6 + j, none⟩) hbl).trans hc
      have dd := fun j u (hc : w.cell? ⟨b', o' + i * 6 + j, none⟩ = some u) => (hb.cell (p := ⟨b', o' + i * 6 + j, none⟩) hbl').trans hc
      replace c0 := (hb.cell (p := ⟨b, o + i * 6, none⟩) hbl).trans c0
      replace c1 := cc 1 _ c1
      replace c2 := cc 2 _ c2
      replace c3 := cc 3 _ c3
      replace c4 := cc 4 _ c4
      replace c5 := cc 5 _ c5
      replace d0 := (hb.cell (p := ⟨b', o' + i * 6, none⟩) hbl').trans d0
      replace d1 := dd 1 _ d1
      replace d2 := dd 2 _ d2
      replace d3 := dd 3 _ d3
      replace d4 := dd 4 _ d4
      replace d5 := dd 5 _ d5
      have hz := hb.size
      have hbl2 : b < wr.heap.size := by omega
      have hbl3 : b' < wr.heap.size := by omega
      have hC := fun x => hsame (gr wr x) (below_then hb (gr_below wr x))
      have HB := Lib.hid hb
      clear cc dd hsame hT hT' hk hk' hr hr' hE hE' hA hA' hsz ih hg hi1 hb hqb hqb'
      go_upto_region 6 with fail
      go_cut [80] from 11 to 80 (fun s80 wc => s80 = .bool false ∧ Below wr.heap.size wr wc)
      case first =>
       clear HT HT' HG HGG HB HAR HI HN
       refine wp_region_gr (by kernel_rfl) (by kernel_rfl) ?_
       repeat (go_big_quiet_step ((go_at_call 32; exact gr_call (hC _))))
       with_reducible refine wpQuiet_nil ?_
       intro _ hw'; obtain ⟨w6, hw''⟩ := hw'; subst hw''
       have B6 := gr_below wr w6
       go_wp2_with fail
       go_meet
       case rel => exact ⟨rfl, B6⟩
      case rest =>
       obtain ⟨rfl, hbc⟩ := hcut
       have hb2 := below_then HB.out hbc
       have HG2 := HG.out
       have HG3 := HGG.out
       simp only [Ins.len] at HG2 HG3
       go_wp2_with fail
       go_roundg (r.len + 1)
       case measure => omega
       case rel =>
        have hl : (A.app (.cons a t s m h k .nil)).len = i + 1 := by rw [Ins.len_app, HI.out]; rfl
        exact ⟨A.app (.cons a t s m h k .nil), r, by rw [Ins.app_assoc]; exact HAR.out, by rw [hl]; omega, by omega, by rw [hl]; go_num, hb2, by rw [hl]; exact HT.out, by rw [hl]; exact HT'.out⟩
end Go.Proofs.YthieinfonomeeaaGreatDoor
