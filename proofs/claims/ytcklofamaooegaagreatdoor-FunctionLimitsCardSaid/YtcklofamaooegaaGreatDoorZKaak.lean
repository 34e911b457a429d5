/-
  The claim's own texts, packed. Conditions: those typed in each theorem.
-/
import Derived.Test.YtcklofamaooegaaGreatDoorZKaae
import Derived.Test.YtcklofamaooegaaGreatDoorZKaab
import Derived.Deep.LoopGhost
set_option maxHeartbeats 4000000
set_option maxRecDepth 10000
set_option linter.unusedVariables false
namespace Go.Proofs.YtcklofamaooegaaGreatDoor
open Go.RowKit
structure Step (g : Nat) (w w' : World) : Prop where
 below : Below g w w'
 rest : ∀ k, g < k → k < w.heap.size → w'.heap[k]? = w.heap[k]?
theorem Step.refl (g : Nat) (w : World) : Step g w w := ⟨Below.refl _ _, fun _ _ _ => rfl⟩
theorem Step.trans {g : Nat} {a b c : World} (h : Step g a b) (k : Step g b c) : Step g a c :=
 ⟨h.below.trans k.below, fun i h1 h2 => (k.rest i h1 (Nat.lt_of_lt_of_le h2 h.below.size)).trans (h.rest i h1 h2)⟩
theorem Step.of_below {g : Nat} {w w' : World} (h : Below w.heap.size w w') (hg : g ≤ w.heap.size) : Step g w w' := ⟨h.mono hg, fun k _ h2 => h.block k h2⟩
theorem Step.alloc {g : Nat} {a w : World} (h : Step g a w) (hg : g ≤ w.heap.size) (o : Obj) : Step g a (w.alloc o) := h.trans (Step.of_below (below_new0 w o) hg)
theorem Step.drew {g : Nat} {a w : World} (h : Step g a w) : Step g a w.drew := ⟨h.below.drew, h.rest⟩
theorem Step.put {g : Nat} {a w : World} (h : Step g a w) (i : Nat) (u : Value) : Step g a (w.setCell ⟨g, i, none⟩ u) :=
 h.trans ⟨(Below.refl g w).setCell (p := ⟨g, i, none⟩) (Nat.le_refl _) u, fun k h1 h2 => Below.heap_setCell _ _ _ _ (show k ≠ g by omega)⟩
theorem Known.step {g h : Nat} {t : TypeId} {cs : Array Value} {w w' : World} (k : Known w h t cs) (s : Step g w w') (hg : h ≠ g) : Known w' h t cs := by
 have hl := k.lt
 by_cases e : h < g
 ·exact (s.below.block h e).trans k
 ·exact (s.rest h (by omega) hl).trans k
def Lay (g : Nat) (w : World) : Form.Tree → Nat → Prop
 | .num t, h => g < h ∧ Known w h 122 #[.string ⟨#[]⟩, .string t, .pointer none, .pointer none]
 | .un op a, h => g < h ∧ ∃ i, Known w h 122 #[.string op, .string ⟨#[]⟩, .pointer (some ⟨i, 0, none⟩), .pointer none] ∧ Lay g w a i
 | .bin op a b, h => g < h ∧ ∃ i j, Known w h 122 #[.string op, .string ⟨#[]⟩, .pointer (some ⟨i, 0, none⟩), .pointer (some ⟨j, 0, none⟩)] ∧ Lay g w a i ∧ Lay g w b j
theorem Lay.step {g : Nat} {w w' : World} (s : Step g w w') : ∀ {T : Form.Tree} {h : Nat}, Lay g w T h → Lay g w' T h := by
 intro T
 induction T with
 | num t => rintro h ⟨h1, h2⟩; exact ⟨h1, h2.step s (by omega)⟩
 | un op a iha => rintro h ⟨h1, i, h2, h3⟩; exact ⟨h1, i, h2.step s (by omega), iha h3⟩
 | bin op a b iha ihb => rintro h ⟨h1, i, j, h2, h3, h4⟩; exact ⟨h1, i, j, h2.step s (by omega), iha h3, ihb h4⟩
def Toks (g : Nat) (w : World) (p : Option Addr) (ts : List ByteArray) : Prop :=
 ts = [] ∨ ∃ b o, p = some ⟨b, o, none⟩ ∧ b < g ∧ ∀ i (h : i < ts.length), w.cell? ⟨b, o + i, none⟩ = some (.string ts[i])
theorem Toks.step {g : Nat} {w w' : World} {p : Option Addr} {ts : List ByteArray} (h : Toks g w p ts) (s : Below g w w') : Toks g w' p ts := by
 rcases h with h | ⟨b, o, h1, h2, h3⟩
 ·exact .inl h
 ·exact .inr ⟨b, o, h1, h2, fun i hi => (s.cell (p := ⟨b, o + i, none⟩) h2).trans (h3 i hi)⟩
def PS (g : Nat) (w : World) (ts : List ByteArray) (bad : Bool) : Prop :=
 ∃ p c, ts.length ≤ c ∧ Known w g 75 #[.slice p ts.length c, .bool bad] ∧ Toks g w p ts
theorem PS.below {g : Nat} {w w' : World} {ts : List ByteArray} {bad : Bool} (h : PS g w ts bad) (s : Below w.heap.size w w') : PS g w' ts bad := by
 obtain ⟨p, c, h1, h2, h3⟩ := h
 exact ⟨p, c, h1, h2.on s, h3.step (s.mono (Nat.le_of_lt h2.lt))⟩
theorem PS.lt {g : Nat} {w : World} {ts : List ByteArray} {bad : Bool} (h : PS g w ts bad) : g < w.heap.size := by
 obtain ⟨p, c, h1, h2, h3⟩ := h
 exact h2.lt
theorem PS.alloc {g : Nat} {w : World} {ts : List ByteArray} {bad : Bool} (h : PS g w ts bad) (o : Obj) : PS g (w.alloc o) ts bad := h.below (below_new0 w o)
theorem PS.drew {g : Nat} {w : World} {ts : List ByteArray} {bad : Bool} (h : PS g w ts bad) : PS g w.drew ts bad := h.below (Below.refl _ _).drew
theorem PS.nil {g : Nat} {w : World} {bad : Bool} (h : PS g w [] bad) : ∃ p c, w.cell? ⟨g, 0, none⟩ = some (.slice p 0 c) ∧ w.cell? ⟨g, 1, none⟩ = some (.bool bad) ∧ w.frozen? ⟨g, 0, none⟩ = false ∧ w.frozen? ⟨g, 1, none⟩ = false := by
 obtain ⟨p, c, h1, h2, h3⟩ := h
 exact ⟨p, c, h2.cell 0, h2.cell 1, h2.free 0, h2.free 1⟩
theorem PS.cons {g : Nat} {w : World} {t : ByteArray} {r : List ByteArray} {bad : Bool} (h : PS g w (t :: r) bad) :
  ∃ b o c, w.cell? ⟨g, 0, none⟩ = some (.slice (some ⟨b, o, none⟩) (r.length + 1) (c + 1)) ∧ r.length ≤ c ∧ w.cell? ⟨g, 1, none⟩ = some (.bool bad) ∧ w.frozen? ⟨g, 0, none⟩ = false ∧ w.frozen? ⟨g, 1, none⟩ = false
   ∧ w.cell? ⟨b, o, none⟩ = some (.string t) ∧ PS g (w.setCell ⟨g, 0, none⟩ (.slice (some ⟨b, o + 1, none⟩) r.length c)) r bad
   ∧ (c = 0 → PS g (w.setCell ⟨g, 0, none⟩ (.slice (some ⟨b, o, none⟩) r.length 0)) r bad) := by
 obtain ⟨p, c, h1, h2, h3⟩ := h
 rcases h3 with h3 | ⟨b, o, rfl, hb, h3⟩
 ·cases h3
 ·simp only [List.length_cons] at h1 h3 h2
  obtain ⟨d, rfl⟩ : ∃ d, c = d + 1 := ⟨c - 1, by omega⟩
  refine ⟨b, o, d, h2.cell 0, by omega, h2.cell 1, h2.free 0, h2.free 1, by simpa using h3 0 (by omega), ⟨some ⟨b, o + 1, none⟩, d, by omega, h2.put 0 _, ?_⟩,
   fun hd => ⟨some ⟨b, o, none⟩, 0, by omega, h2.put 0 _, .inl (List.eq_nil_of_length_eq_zero (by omega))⟩⟩
  refine .inr ⟨b, o + 1, rfl, hb, fun i hi => ?_⟩
  rw [((Below.refl g w).setCell (p := ⟨g, 0, none⟩) (Nat.le_refl _) _).cell (p := ⟨b, o + 1 + i, none⟩) hb]
  have := h3 (i + 1) (by omega)
  rw [show o + 1 + i = o + (i + 1) by omega]
  simpa using this
theorem PS.bad {g : Nat} {w : World} {ts : List ByteArray} {bad : Bool} (h : PS g w ts bad) :
  w.cell? ⟨g, 1, none⟩ = some (.bool bad) ∧ w.frozen? ⟨g, 1, none⟩ = false ∧ ∀ b, PS g (w.setCell ⟨g, 1, none⟩ (.bool b)) ts b := by
 obtain ⟨p, c, h1, h2, h3⟩ := h
 exact ⟨h2.cell 1, h2.free 1, fun b => ⟨p, c, h1, h2.put 1 (.bool b), h3.step ((Below.refl g w).setCell (p := ⟨g, 1, none⟩) (Nat.le_refl _) _)⟩⟩
def Strs (w : World) (x : Nat) (l : List ByteArray) : Prop := ∀ i (h : i < l.length), w.cell? ⟨x, i, none⟩ = some (.string l[i])
theorem Strs.made (w : World) (t : TypeId) (l : List ByteArray) : Strs (w.alloc (.cells (l.map Value.string).toArray t)) w.heap.size l := by
 intro i hi
 rw [(Known.made w t _).cell i]
 simp [hi]
theorem Strs.step {g x : Nat} {w w' : World} {l : List ByteArray} (h : Strs w x l) (s : Step g w w') (hx : x ≠ g) (hl : x < w.heap.size) : Strs w' x l := by
 intro i hi
 rw [← h i hi]
 by_cases e : x < g
 ·exact World.cell?_of_block (w := w) (s.below.block x e)
 ·exact World.cell?_of_block (w := w) (s.rest x (by omega) hl)
theorem str_ne {a b : ByteArray} (h : ¬ a = b) : (a.toList == b.toList) = false := by
 rw [beq_eq_false_iff_ne, ByteArray.toList_eq, ByteArray.toList_eq]
 intro e
 exact h (ByteArray.ext (Array.toList_inj.1 e))
theorem str_self (a : ByteArray) : (a.toList == a.toList) = true := by simp
theorem str_emp {a : ByteArray} (h : ¬ a = ⟨#[]⟩) : a.toList.isEmpty = false := by
 rw [ByteArray.toList_eq]
 cases hl : a.data.toList with
 | nil => exact absurd (ByteArray.ext (Array.toList_inj.1 hl)) h
 | cons _ _ => rfl
theorem peek_nil (g : Nat) (b : Bool) (w : World) (h : PS g w [] b) :
  Calls Tryz.prog 219 #[.pointer (some ⟨g, 0, none⟩)] w fun e w' => e = .returned (.string ⟨#[]⟩) ∧ w = w' := by
 obtain ⟨p, c, c0, c1, f0, f1⟩ := h.nil
 go_enter Tryz.func219, Tryz.ntmps219
 go_wp2_with fail
 go_ret
 exact ⟨rfl, rfl⟩
theorem peek_cons (g : Nat) (t : ByteArray) (r : List ByteArray) (b : Bool) (w : World) (h : PS g w (t :: r) b) :
  Calls Tryz.prog 219 #[.pointer (some ⟨g, 0, none⟩)] w fun e w' => e = .returned (.string t) ∧ w = w' := by
 obtain ⟨q, o, c, c0, hc, c1, f0, f1, ct, hp, hq⟩ := h.cons
 clear hp hq
 go_enter Tryz.func219, Tryz.ntmps219
 go_wp2_with fail
 go_ret
 exact ⟨rfl, rfl⟩
def hd (ts : List ByteArray) : ByteArray := ts.headD ⟨#[]⟩
theorem peek_any (g : Nat) (ts : List ByteArray) (b : Bool) (w : World) (h : PS g w ts b) :
  Calls Tryz.prog 219 #[.pointer (some ⟨g, 0, none⟩)] w fun e w' => e = .returned (.string (hd ts)) ∧ w = w' := by
 cases ts with
 | nil => exact peek_nil g b w h
 | cons t r => exact peek_cons g t r b w h
theorem take_no (g x : Nat) (l : List ByteArray) (S : ByteArray) (w : World) (hl : l.length ≤ 10) (hL : Strs w x l) (hS : S ∉ l)
  (hP : ∀ w0, w0 = w → Calls Tryz.prog 219 #[.pointer (some ⟨g, 0, none⟩)] w0 fun e w' => e = .returned (.string S) ∧ w0 = w') :
  Calls Tryz.prog 167 #[.pointer (some ⟨g, 0, none⟩), .slice (some ⟨x, 0, none⟩) l.length l.length] w fun e w' => e = .returned (.string ⟨#[]⟩) ∧ w = w' := by
 obtain ⟨n, hn⟩ : ∃ n, n = l.length := ⟨_, rfl⟩
 rw [← hn]
 rw [← hn] at hl
 have Hn := Lib.hid hn
 clear hn
 go_enter Tryz.func167, Tryz.ntmps167
 go_wp2_with fail
 go_loopg [6, 9] (n + 1) (fun k s6 s9 wr => ∃ i : Nat, i ≤ n ∧ n - i < k ∧ s9 = .int .i64 i ∧ w = wr)
 case atStart => exact ⟨0, by omega, by omega, rfl, rfl⟩
 case round =>
  obtain ⟨i, hi, hg, rfl, rfl⟩ := hrel
  by_cases hlt : i < n
  ·obtain ⟨o, ho⟩ : ∃ o, o = l[i]'(by have := Hn.out; omega) := ⟨_, rfl⟩
   have c0 : w.cell? ⟨x, i, none⟩ = some (.string o) := by rw [ho]; exact hL i (by have := Hn.out; omega)
   have ne := str_ne (a := S) (b := o) (by intro e; apply hS; rw [e, ho]; exact List.getElem_mem _)
   clear ho hL hS Hn
   go_wp2_with fail
   refine (hP _ rfl).mono ?_
   rintro e w1 ⟨rfl, rfl⟩
   go_wp2_with fail
   go_roundg (n - (i + 1) + 1)
   case measure => omega
   case rel => exact ⟨i + 1, by omega, by omega, rfl, rfl⟩
  ·clear hL hS Hn
   go_wp2_with fail
   go_ret
   exact ⟨rfl, rfl⟩
theorem take_yes (g x : Nat) (l : List ByteArray) (t : ByteArray) (r : List ByteArray) (b : Bool) (w : World) (hl : l.length ≤ 10) (hL : Strs w x l) (ht : t ∈ l) (hs : PS g w (t :: r) b) (hr : r.length ≤ 1000000) :
  Calls Tryz.prog 167 #[.pointer (some ⟨g, 0, none⟩), .slice (some ⟨x, 0, none⟩) l.length l.length] w fun e w' => e = .returned (.string t) ∧ Step g w w' ∧ PS g w' r b := by
 have hP := fun (w0 : World) (e : w0 = w) => peek_cons g t r b w0 (e ▸ hs)
 obtain ⟨q, u, c, c0, hc, c1, f0, f1, ct, hp, hq⟩ := hs.cons
 clear hs
 obtain ⟨j, hje⟩ : ∃ j, ∃ h : j < l.length, l[j] = t := by obtain ⟨j, hj, e⟩ := List.mem_iff_getElem.1 ht; exact ⟨j, hj, e⟩
 have hj : j < l.length := hje.1
 have hje' : l[j]? = some t := by obtain ⟨h, e⟩ := hje; rw [List.getElem?_eq_getElem h, e]
 clear hje
 have HP := Lib.hid hp
 have HQ := Lib.hid hq
 clear hp hq
 obtain ⟨n, hn⟩ : ∃ n, n = l.length := ⟨_, rfl⟩
 rw [← hn]
 rw [← hn] at hl hj
 have Hn := Lib.hid hn
 clear hn
 go_enter Tryz.func167, Tryz.ntmps167
 go_wp2_with fail
 go_loopg [6, 9] (n + 1) (fun k s6 s9 wr => ∃ i : Nat, i ≤ j ∧ n - i < k ∧ s9 = .int .i64 i ∧ w = wr)
 case atStart => exact ⟨0, by omega, by omega, rfl, rfl⟩
 case round =>
  obtain ⟨i, hi, hg, rfl, rfl⟩ := hrel
  have hlt : i < n := by omega
  obtain ⟨o, ho⟩ : ∃ o, o = l[i]'(by have := Hn.out; omega) := ⟨_, rfl⟩
  have d0 : w.cell? ⟨x, i, none⟩ = some (.string o) := by rw [ho]; exact hL i (by have := Hn.out; omega)
  by_cases e : t = o
  ·subst e
   have ne := str_self t
   clear ho hL Hn hje' ht hj
   rcases Nat.eq_zero_or_pos c with hc0 | hc0
   ·subst hc0
    obtain rfl : r = [] := List.eq_nil_of_length_eq_zero (by omega)
    replace HQ := Lib.hid (HQ.out rfl)
    go_wp2_with fail
    refine (hP _ rfl).mono ?_
    rintro e w1 ⟨rfl, rfl⟩
    go_wp2_with fail
    go_ret
    exact ⟨rfl, (Step.refl _ _).put 0 _, HQ.out⟩
   ·go_wp2_with fail
    refine (hP _ rfl).mono ?_
    rintro e w1 ⟨rfl, rfl⟩
    go_wp2_with fail
    go_ret
    exact ⟨rfl, (Step.refl _ _).put 0 _, HP.out⟩
  ·have hij : i < j := by
    by_cases h : i = j
    ·subst h; rw [List.getElem?_eq_getElem (by have := Hn.out; omega), ← ho] at hje'; exact absurd (Option.some.inj hje').symm e
    ·omega
   have ne := str_ne e
   clear ho hL Hn hje' ht e hj
   go_wp2_with fail
   refine (hP _ rfl).mono ?_
   rintro e w1 ⟨rfl, rfl⟩
   go_wp2_with fail
   go_roundg (n - (i + 1) + 1)
   case measure => omega
   case rel => exact ⟨i + 1, by omega, by omega, rfl, rfl⟩
theorem take_none_any (g x : Nat) (l ts : List ByteArray) (b : Bool) (w : World) (hl : l.length ≤ 10) (hL : Strs w x l) (hne : ⟨#[]⟩ ∉ l) (h : Form.take l ts = none) (hs : PS g w ts b) :
  Calls Tryz.prog 167 #[.pointer (some ⟨g, 0, none⟩), .slice (some ⟨x, 0, none⟩) l.length l.length] w fun e w' => e = .returned (.string ⟨#[]⟩) ∧ w = w' := by
 refine take_no g x l (hd ts) w hl hL ?_ (fun w0 e => peek_any g ts b w0 (e ▸ hs))
 cases ts with
 | nil => exact hne
 | cons t r =>
   intro hm; replace hm : t ∈ l := hm
   rw [Form.take, if_pos (Form.mem_iff.2 hm)] at h
   cases h
theorem take_some_any (g x : Nat) (l ts : List ByteArray) (b : Bool) (op : ByteArray) (r : List ByteArray) (w : World) (hl : l.length ≤ 10) (hL : Strs w x l) (h : Form.take l ts = some (op, r)) (hs : PS g w ts b) (hr : ts.length ≤ 1000000) :
  Calls Tryz.prog 167 #[.pointer (some ⟨g, 0, none⟩), .slice (some ⟨x, 0, none⟩) l.length l.length] w fun e w' => e = .returned (.string op) ∧ Step g w w' ∧ PS g w' r b := by
 obtain ⟨h1, h2, rfl⟩ := Form.take_len h
 exact take_yes g x l op r b w hl hL h2 hs (by omega)
def Opd (F f n : Nat) : Prop := ∀ (g : Nat) (ts : List ByteArray) (b : Bool) (r : Form.Res) (w : World), Form.P f (.lv n) ts b = some r → ts.length ≤ 1000 → PS g w ts b →
 Calls Tryz.prog F #[.pointer (some ⟨g, 0, none⟩)] w fun e w' => ∃ h, e = .returned (.pointer (some ⟨h, 0, none⟩)) ∧ Step g w w' ∧ Lay g w' r.T h ∧ PS g w' r.rest r.bad
theorem mem_no {t : ByteArray} {l : List ByteArray} (h : Form.mem t l = false) : t ∉ l := fun hm => by rw [Form.mem_iff.2 hm] at h; cases h
theorem ops_ne (n : Nat) : ⟨#[]⟩ ∉ Form.ops n := by
 refine mem_no ?_
 unfold Form.ops
 split <;> decide
theorem ops_len (n : Nat) : (Form.ops n).length ≤ 10 := by
 unfold Form.ops
 split <;> decide
theorem op_ne {n : Nat} {op : ByteArray} (h : op ∈ Form.ops n) : op.toList.isEmpty = false := str_emp (fun e => ops_ne n (e ▸ h))
theorem chain_any (g F n f k x : Nat) (ts : List ByteArray) (b : Bool) (x1 r : Form.Res) (w : World) (hF : ∀ args w, (callFunc F args).run Tryz.prog w = .ok (.enter F args) w) (hO : Opd F f (n + 1))
  (h1 : Form.P f (.lv (n + 1)) ts b = some x1) (hk : k ≤ f) (h2 : Form.P k (.loop n x1.T) x1.rest x1.bad = some r) (hlen : ts.length ≤ 1000) (hs : PS g w ts b) (hx : Strs w x (Form.ops n)) (hxg : g < x) (hxl : x < w.heap.size) :
  Calls Tryz.prog 110 #[.pointer (some ⟨g, 0, none⟩), .func (.func F) #[.pointer (some ⟨g, 0, none⟩)] #[], .slice (some ⟨x, 0, none⟩) (Form.ops n).length (Form.ops n).length] w fun e w' =>
   ∃ h, e = .returned (.pointer (some ⟨h, 0, none⟩)) ∧ Step g w w' ∧ Lay g w' r.T h ∧ PS g w' r.rest r.bad := by
 have hlen1 := Form.P_len _ _ _ _ _ h1
 have hol := ops_len n
 have hone := ops_ne n
 have hopne := fun op (h : op ∈ Form.ops n) => op_ne h
 generalize hops : Form.ops n = l at *
 obtain ⟨m, hm⟩ : ∃ m, m = l.length := ⟨_, rfl⟩
 rw [← hm]
 have Hm := Lib.hid hm
 have Hops := Lib.hid hops
 clear hm hops
 go_enter Tryz.func110, Tryz.ntmps110
 go_wp2_with fail
 refine (hO g ts b x1 w h1 hlen hs).mono ?_
 rintro e w1 ⟨h, rfl, st1, ly1, ps1⟩
 go_wp2_with fail
 go_loopg [7, 8] (k + 1) (fun q s7 s8 wr => ∃ (a : Form.Tree) (h : Nat) (ts : List ByteArray) (b : Bool) (k : Nat), k < q ∧ k ≤ f ∧ Form.P k (.loop n a) ts b = some r ∧ ts.length ≤ 1000 ∧ s7 = .pointer (some ⟨h, 0, none⟩) ∧ Step g w wr ∧ Lay g wr a h ∧ PS g wr ts b)
 case atStart => exact ⟨x1.T, h, x1.rest, x1.bad, k, by omega, hk, h2, by omega, rfl, st1, ly1, ps1⟩
 case round =>
  obtain ⟨a, h, ts, b, k, hkq, hkf, hP, htl, rfl, st, ly, ps⟩ := hrel
  clear h1 h2 hs st1 ly1 ps1 hlen hlen1 hk
  have hX := hx.step st (by omega) hxl
  cases k with
  | zero => simp [Form.P] at hP
  | succ k =>
    rw [Form.P, Hops.out] at hP
    cases htk : Form.take l ts with
    | none =>
      rw [htk] at hP
      simp only [Option.some.injEq] at hP
      have hT := fun (w0 : World) (e : w0 = wr) => take_none_any g x l ts b w0 hol (e ▸ hX) hone htk (e ▸ ps)
      rw [← Hm.out] at hT
      subst hP
      clear hX hx hO htk hone hopne
      go_wp2_with fail
      refine (hT _ rfl).mono ?_
      rintro e w2 ⟨rfl, rfl⟩
      go_wp2_with fail
      go_ret
      exact ⟨h, rfl, st, ly, ps⟩
    | some y =>
      obtain ⟨op, r2⟩ := y
      rw [htk] at hP
      have hop := hopne op (Form.take_len htk).2.1
      have hrl := (Form.take_len htk).1
      have hT := fun (w0 : World) (e : w0 = wr) => take_some_any g x l ts b op r2 w0 hol (e ▸ hX) htk (e ▸ ps) (by omega)
      rw [← Hm.out] at hT
      clear htk hone hopne
      cases b with
      | true =>
        simp only [if_true, Option.some.injEq] at hP
        subst hP
        clear hX hx hO
        go_wp2_with fail
        refine (hT _ rfl).mono ?_
        rintro e w2 ⟨rfl, st2, ps2⟩
        obtain ⟨c1, f1, -⟩ := ps2.bad
        go_wp2_with fail
        go_ret
        exact ⟨h, rfl, st.trans st2, ly.step st2, ps2⟩
      | false =>
        simp only [Bool.false_eq_true, if_false] at hP
        cases hsub : Form.P k (.lv (n + 1)) r2 false with
        | none => rw [hsub] at hP; cases hP
        | some s =>
          rw [hsub] at hP
          simp only at hP
          have hO2 := fun w0 => hO g r2 false s w0 (Form.P_le (by omega) hsub) (by omega)
          have hle := Form.P_len _ _ _ _ _ hsub
          clear hX hO hsub
          go_wp2_with fail
          refine (hT _ rfl).mono ?_
          rintro e w2 ⟨rfl, st2, ps2⟩
          obtain ⟨c1, f1, -⟩ := ps2.bad
          go_wp2_with fail
          refine (hO2 _ ps2).mono ?_
          rintro e w3 ⟨h', rfl, st3, ly3, ps3⟩
          have hl3 := ps3.lt
          clear c1 f1 ps2 ps hT hO2 hx
          go_wp2_with fail
          go_roundg (k + 1)
          case measure => omega
          case rel =>
           refine ⟨.bin op a s.T, w3.heap.size, s.rest, s.bad, k, by omega, by omega, hP, ?_, rfl, ((st.trans st2).trans st3).alloc (Nat.le_of_lt hl3) _, ?_, ps3.alloc _⟩
           ·omega
           ·refine ⟨hl3, h, h', Known.made w3 _ _, ?_, ?_⟩
            ·exact ((ly.step st2).step st3).step (Step.of_below (below_new0 w3 _) (Nat.le_of_lt hl3))
            ·exact ly3.step (Step.of_below (below_new0 w3 _) (Nat.le_of_lt hl3))
end Go.Proofs.YtcklofamaooegaaGreatDoor
