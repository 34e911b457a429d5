/-
  The claim's own texts, packed. Conditions: those typed in each theorem.
-/
import Derived.Test.YthieinfonomeeaaGreatDoorZLaa
import Derived.Deep.RegionHeld3
namespace Go.Proofs.YthieinfonomeeaaGreatDoor
open Go.RowKit
section
variable {P : Program} {Q : Exit → Act → World → Prop}
def tailPost (P : Program) (ops : Array Oper) (l : List Oper) (Q : Exit → Act → World → Prop) : Exit → Act → World → Prop
 | .normal, a, w => wpList P ops Q l a w
 | .panic c, a, w => Q (.panic c) a w
 | _, _, _ => False
theorem tailPost_normal {ops : Array Oper} {l : List Oper} {a : Act} {w : World} (h : wpList P ops Q l a w) : tailPost P ops l Q .normal a w := h
def backB (ops : Array Oper) (n : Nat) : Bool := (List.range n).all fun j =>
 match ops[j]? with
 | some o => (o.after.all fun e => !Region.binds .any e || decide (e.on < j)) && (match o.guard with | none => true | some (g, _) => decide (g < n))
 | none => false
theorem backB_spec {ops : Array Oper} {n j : Nat} (h : backB ops n = true) (hj : j < n) : ∃ o, ops[j]? = some o ∧ (∀ e ∈ o.after, Region.binds .any e = true → e.on < j) ∧ (∀ g b, o.guard = some (g, b) → g < n) := by
 have h1 := List.all_eq_true.1 h j (List.mem_range.2 hj)
 cases ho : ops[j]? with
 | none => simp [ho] at h1
 | some o =>
   simp only [ho, Bool.and_eq_true] at h1
   refine ⟨o, rfl, fun e he hb => ?_, fun g b hg => ?_⟩
   ·have := (Array.all_eq_true_iff_forall_mem.1 h1.1) e he
    simpa [hb] using this
   ·have h2 := h1.2
    simp only [hg, decide_eq_true_eq] at h2
    exact h2
def splitB (ops : Array Oper) (n : Nat) : Bool :=
 decide (n < ops.size) && Region.sinkB .any ops n && Region.chainB .any ops n && backB ops n && Region.seqB .any ops (ops.size - n) n (Array.replicate n true ++ Array.replicate (ops.size - n) false)
theorem Oper.wp_post {o : Oper} {a : Act} {w : World} {K : Act → World → Prop} {ops : Array Oper} {l : List Oper} (h : o.wp P a w K (tailPost P ops l Q)) : o.wp P a w K Q := by
 unfold Oper.wp at *
 generalize (execOp a.eval o).run P w = r at *
 cases r with
 | ok n w' =>
   cases n <;> simp only [Oper.upon] at h ⊢ <;>
    first
     | exact h
     | exact Calls.mono h (fun e w'' he => by
       cases e <;> first | exact he | (obtain ⟨a, w, h⟩ := he; exact h.elim))
 | halt x w' => cases x <;> simp only [Oper.upon] at h ⊢ <;> exact h
theorem wpOp_head {ops ops1 : Array Oper} {l : List Oper} {n i : Nat} {K : Act → World → Prop} {a : Act} {w : World} (hb : backB ops n = true) (h1 : ∀ j, j < n → ops1[j]? = ops[j]?) (hi : i < n)
  (h : wpOp P ops1 (tailPost P ops l Q) i K a w) : wpOp P ops Q i K a w := by
 obtain ⟨o, ho, _, hg⟩ := backB_spec hb hi
 unfold wpOp at *
 rw [h1 i hi] at h
 simp only [ho] at h ⊢
 have hw : Region.wanted o (yielded ops1 a.tmps) = Region.wanted o (yielded ops a.tmps) := by
  unfold Region.wanted
  split
  ·rfl
  ·rename_i g want hgu
   rw [show yielded ops1 a.tmps g = yielded ops a.tmps g by unfold yielded; rw [h1 g (hg _ _ hgu)]]
 rw [hw] at h
 split
 ·rename_i hw; simp only [hw, if_true] at h
  exact h.imp Oper.wp_post (fun h => ⟨h.1, by obtain ⟨a, w, h⟩ := h.2; exact h.elim⟩)
 ·rename_i hw; simp only [hw] at h; exact h
theorem split_go {ops ops1 : Array Oper} {l : List Oper} {n : Nat} (hn : n < ops.size) (hs : Region.sinkB .any ops n = true) (hc : Region.chainB .any ops n = true) (hb : backB ops n = true)
  (hq : Region.seqB .any ops (ops.size - n) n (Array.replicate n true ++ Array.replicate (ops.size - n) false) = true) (h1 : ∀ j, j < n → ops1[j]? = ops[j]?) (hl : ∀ j, l[j]? = ops[n + j]?) (hll : l.length = ops.size - n) :
  ∀ (f : Nat) (x y : Array Bool) (a : Act) (w : World), x.size = n → x.toList.count false = f → (∀ j d, j < n → y.getD j d = x.getD j d) → HeadInv .any ops n y →
  wpAny P .any ops1 (tailPost P ops l Q) f x a w → wpAny P .any ops Q (f + (ops.size - n)) y a w := by
 intro f
 induction f with
 | zero =>
   intro x y a w hx h0 hxy inv h
   rw [Nat.zero_add, ← hll]
   refine wpAny_of_seq l n y a w hl ?_ h.2
   rw [hll]
   have hy : y = Array.replicate n true ++ Array.replicate (ops.size - n) false := by
    refine Array.ext (by simp [inv.size]; omega) fun i hi hi' => ?_
    by_cases hin : i < n
    ·rw [Array.getElem_append_left (by simpa using hin)]
     have h2 := hxy i false hin
     have h3 : x[i]'(by omega) = true := by
      cases hb : x[i]'(by omega) with
      | true => rfl
      | false =>
        have : false ∈ x.toList := by rw [← hb]; simp
        have := List.count_pos_iff.2 this
        omega
     simp only [Array.getD_eq_getD_getElem?, Array.getElem?_eq_getElem hi, Array.getElem?_eq_getElem (show i < x.size by omega), Option.getD_some] at h2
     rw [h2, h3]; simp
    ·rw [Array.getElem_append_right (by simpa using hin)]
     have h2 := inv.tail i (by omega) (by rw [← inv.size]; exact hi)
     simp only [Array.getD_eq_getD_getElem?, Array.getElem?_eq_getElem hi, Option.getD_some] at h2
     rw [h2]; simp
   rw [hy]; exact hq
 | succ f ih =>
   intro x y a w hx h0 hxy inv h
   have hex : ∃ i, i < n ∧ x.getD i true = false := by
    have : false ∈ x.toList := List.count_pos_iff.1 (by omega)
    obtain ⟨i, hi, he⟩ := List.mem_iff_getElem.1 this
    have hi' : i < x.size := by simpa using hi
    refine ⟨i, by omega, ?_⟩
    rw [Array.getD_eq_getD_getElem?, Array.getElem?_eq_getElem hi', Option.getD_some]
    simpa using he
   have hready : ∀ (d i : Nat), i ≤ d → i < n → x.getD i true = false → ∃ k, k ∈ Region.ready .any ops y := by
    intro d
    induction d with
    | zero =>
      intro i hid hin hxi
      obtain ⟨o, ho, hbk, _⟩ := backB_spec hb hin
      refine ⟨i, mem_ready.2 ⟨by rw [hxy i true hin]; exact hxi, o, ho, fun e he hbb => ?_⟩⟩
      have := hbk e he hbb; omega
    | succ d ihd =>
      intro i hid hin hxi
      obtain ⟨o, ho, hbk, _⟩ := backB_spec hb hin
      by_cases hall : ∀ e ∈ o.after, Region.binds .any e = true → x.getD e.on false = true
      ·refine ⟨i, mem_ready.2 ⟨by rw [hxy i true hin]; exact hxi, o, ho, fun e he hbb => ?_⟩⟩
       rw [hxy e.on false (by have := hbk e he hbb; omega)]
       exact hall e he hbb
      ·obtain ⟨e, he, hbb, hne⟩ : ∃ e, e ∈ o.after ∧ Region.binds .any e = true ∧ ¬ x.getD e.on false = true :=
        Classical.byContradiction fun hno => hall fun e he hbb => Classical.byContradiction fun h2 => hno ⟨e, he, hbb, h2⟩
       have hlt := hbk e he hbb
       refine ihd e.on (by omega) (by omega) ?_
       have hsz : e.on < x.size := by omega
       rw [Array.getD_eq_getD_getElem?, Array.getElem?_eq_getElem hsz, Option.getD_some] at hne ⊢
       simpa using hne
   obtain ⟨i0, hi0, hx0⟩ := hex
   obtain ⟨k0, hk0⟩ := hready i0 i0 (Nat.le_refl _) hi0 hx0
   rw [show f + 1 + (ops.size - n) = (f + (ops.size - n)) + 1 by omega]
   refine ⟨fun h2 => by rw [h2] at hk0; simp at hk0, fun i hi => ?_⟩
   have hin : i < n := (Nat.lt_or_ge i n).resolve_right fun hge => tail_waits hs hc hn inv _ i0 rfl hi0 (by rw [hxy i0 true hi0]; exact hx0) i hge hi
   obtain ⟨hyi, o, ho, hall⟩ := mem_ready.1 hi
   obtain ⟨o', ho', hbk, _⟩ := backB_spec hb hin
   have hxi : x.getD i true = false := by rw [← hxy i true hin]; exact hyi
   have hrx : i ∈ Region.ready .any ops1 x := mem_ready.2 ⟨hxi, o, by rw [h1 i hin]; exact ho, fun e he hbb => by
    have : o' = o := Option.some.inj (ho'.symm.trans ho)
    subst this
    rw [← hxy e.on false (by have := hbk e he hbb; omega)]
    exact hall e he hbb⟩
   refine wpOp_mono (fun a' w' h' => ih (x.setIfInBounds i true) (y.setIfInBounds i true) a' w' (by simp [hx]) ?_ ?_ (inv.set hi hin) h') (wpOp_head hb h1 hin (h.2 i hrx))
   ·have hi' : i < x.size := by omega
    rw [Array.toList_setIfInBounds, List.count_set (by simpa using hi')]
    rw [Array.getD_eq_getD_getElem?, Array.getElem?_eq_getElem hi', Option.getD_some] at hxi
    have : x.toList[i]'(by simpa using hi') = false := by simpa using hxi
    rw [this, h0]; simp
   ·intro j d hj
    by_cases hij : i = j
    ·subst hij
     have hi' : i < x.size := by omega
     have hi2 : i < y.size := by rw [inv.size]; omega
     simp [Array.getD_eq_getD_getElem?, hi', hi2]
    ·rw [getD_set_ne d hij, getD_set_ne d hij]; exact hxy j d hj
theorem wp_region_split {id : Nat} {a : Act} {w : World} {l : List Oper} {S : World → Prop} (n : Nat) (hm : P.follows .mixedOrders = true) (hB : splitB l.toArray n = true) (hS : S w.drew)
  (h : S w.drew → wpAnyH P .any (l.take n).toArray (tailPost P l.toArray (l.drop n) Q) S (l.take n).toArray.size (Array.replicate (l.take n).toArray.size false) a w.drew) : (Code.region id l.toArray true).wp P Q a w := by
 simp only [splitB, Bool.and_eq_true, decide_eq_true_eq] at hB
 obtain ⟨⟨⟨⟨hn, hs⟩, hc⟩, hb⟩, hq⟩ := hB
 have hn' : n < l.length := by simpa using hn
 have htl : (l.take n).toArray.size = n := by simp; omega
 have inv0 : HeadInv .any l.toArray n (Array.replicate l.toArray.size false) :=
  ⟨by simp, fun j oj _ hl => (by rw [getD_replicate_false] at hl; cases hl), fun t _ ht => getD_in (by simpa using ht) (getD_replicate_false _ _)⟩
 have htl' : (Array.replicate (l.take n).toArray.size false).size = n := by rw [htl]; simp
 refine wp_region_any hm ?_
 have H := wpAny_of_held _ _ _ _ (h hS)
 have h2 := split_go (P := P) (Q := Q) (ops1 := (l.take n).toArray) (l := l.drop n) hn hs hc hb hq
  (fun j hj => by simp [hj]) (fun j => by simp [List.getElem?_drop]) (by simp) n (Array.replicate (l.take n).toArray.size false) (Array.replicate l.toArray.size false) a w.drew htl' (by rw [htl]; simp) (fun j d hj => by
   have e1 : j < l.toArray.size := by omega
   have e2 : j < (l.take n).toArray.size := by omega
   rw [Array.getD_eq_getD_getElem?, Array.getD_eq_getD_getElem?, Array.getElem?_replicate, Array.getElem?_replicate, if_pos e1, if_pos e2]) inv0 (by rw [htl] at H ⊢; exact H)
 rw [show n + (l.toArray.size - n) = l.toArray.size by omega] at h2
 exact h2
end
end Go.Proofs.YthieinfonomeeaaGreatDoor
