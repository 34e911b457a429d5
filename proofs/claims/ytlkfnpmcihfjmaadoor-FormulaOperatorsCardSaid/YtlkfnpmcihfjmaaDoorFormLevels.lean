/-
  The levels of the formula parser: each reads as the plain reading does. Conditions: those typed in each theorem.
-/
import Derived.Test.YtlkfnpmcihfjmaaDoorFormChain
import Derived.Shelf.Abstract
namespace Go.Proofs.YtlkfnpmcihfjmaaDoor
open Go.RowKit
set_option linter.unusedVariables false

set_option maxHeartbeats 1000000 in
theorem formula_step (f : Nat) (hO : Opd 40 f 1) : Opd 23 (f + 1) 0 := by
  intro g ts b r w hP hl hs
  rw [Form.P, if_neg (by decide), if_neg (by decide), if_neg (by decide), if_neg (by decide)] at hP
  cases hsub : Form.P f (.lv 1) ts b with
  | none => rw [hsub] at hP; cases hP
  | some x1 =>
    rw [hsub] at hP
    simp only at hP
    have hC := chain_any g 40 0 f f w.heap.size ts b x1 r (w.alloc (.cells ((Form.ops 0).map Value.string).toArray 9)) (enters_of Tryd.func40 (by kernel_rfl) rfl) hO hsub (Nat.le_refl _) hP hl (hs.alloc _) (Strs.made w _ _) hs.lt (by simp)
    have hg := hs.lt
    clear hP hsub hO hs
    go_enter Tryd.func23, Tryd.ntmps23
    go_wp2_with fail
    refine (hC).mono ?_
    rintro e w1 ⟨h, rfl, st, ly, ps⟩
    go_wp2_with fail
    go_ret
    exact ⟨h, rfl, (Step.of_below (below_new0 _ _) (Nat.le_of_lt hg)).trans st, ly, ps⟩

set_option maxHeartbeats 1000000 in
theorem conjunction_step (f : Nat) (hO : Opd 55 f 2) : Opd 40 (f + 1) 1 := by
  intro g ts b r w hP hl hs
  rw [Form.P, if_neg (by decide), if_neg (by decide), if_neg (by decide), if_neg (by decide)] at hP
  cases hsub : Form.P f (.lv 2) ts b with
  | none => rw [hsub] at hP; cases hP
  | some x1 =>
    rw [hsub] at hP
    simp only at hP
    have hC := chain_any g 55 1 f f w.heap.size ts b x1 r (w.alloc (.cells ((Form.ops 1).map Value.string).toArray 9)) (enters_of Tryd.func55 (by kernel_rfl) rfl) hO hsub (Nat.le_refl _) hP hl (hs.alloc _) (Strs.made w _ _) hs.lt (by simp)
    have hg := hs.lt
    clear hP hsub hO hs
    go_enter Tryd.func40, Tryd.ntmps40
    go_wp2_with fail
    refine (hC).mono ?_
    rintro e w1 ⟨h, rfl, st, ly, ps⟩
    go_wp2_with fail
    go_ret
    exact ⟨h, rfl, (Step.of_below (below_new0 _ _) (Nat.le_of_lt hg)).trans st, ly, ps⟩

set_option maxHeartbeats 1000000 in
theorem sum_step (f : Nat) (hO : Opd 86 f 4) : Opd 77 (f + 1) 3 := by
  intro g ts b r w hP hl hs
  rw [Form.P, if_neg (by decide), if_neg (by decide), if_neg (by decide), if_neg (by decide)] at hP
  cases hsub : Form.P f (.lv 4) ts b with
  | none => rw [hsub] at hP; cases hP
  | some x1 =>
    rw [hsub] at hP
    simp only at hP
    have hC := chain_any g 86 3 f f w.heap.size ts b x1 r (w.alloc (.cells ((Form.ops 3).map Value.string).toArray 9)) (enters_of Tryd.func86 (by kernel_rfl) rfl) hO hsub (Nat.le_refl _) hP hl (hs.alloc _) (Strs.made w _ _) hs.lt (by simp)
    have hg := hs.lt
    clear hP hsub hO hs
    go_enter Tryd.func77, Tryd.ntmps77
    go_wp2_with fail
    refine (hC).mono ?_
    rintro e w1 ⟨h, rfl, st, ly, ps⟩
    go_wp2_with fail
    go_ret
    exact ⟨h, rfl, (Step.of_below (below_new0 _ _) (Nat.le_of_lt hg)).trans st, ly, ps⟩

set_option maxHeartbeats 1000000 in
theorem term_step (f : Nat) (hO : Opd 93 f 5) : Opd 86 (f + 1) 4 := by
  intro g ts b r w hP hl hs
  rw [Form.P, if_neg (by decide), if_neg (by decide), if_neg (by decide), if_neg (by decide)] at hP
  cases hsub : Form.P f (.lv 5) ts b with
  | none => rw [hsub] at hP; cases hP
  | some x1 =>
    rw [hsub] at hP
    simp only at hP
    have hC := chain_any g 93 4 f f w.heap.size ts b x1 r (w.alloc (.cells ((Form.ops 4).map Value.string).toArray 9)) (enters_of Tryd.func93 (by kernel_rfl) rfl) hO hsub (Nat.le_refl _) hP hl (hs.alloc _) (Strs.made w _ _) hs.lt (by simp)
    have hg := hs.lt
    clear hP hsub hO hs
    go_enter Tryd.func86, Tryd.ntmps86
    go_wp2_with fail
    refine (hC).mono ?_
    rintro e w1 ⟨h, rfl, st, ly, ps⟩
    go_wp2_with fail
    go_ret
    exact ⟨h, rfl, (Step.of_below (below_new0 _ _) (Nat.le_of_lt hg)).trans st, ly, ps⟩

set_option maxHeartbeats 1000000 in
theorem rounded_step (f : Nat) (hO : Opd 101 f 6) : Opd 93 (f + 1) 5 := by
  intro g ts b r w hP hl hs
  rw [Form.P, if_neg (by decide), if_neg (by decide), if_neg (by decide), if_neg (by decide)] at hP
  cases hsub : Form.P f (.lv 6) ts b with
  | none => rw [hsub] at hP; cases hP
  | some x1 =>
    rw [hsub] at hP
    simp only at hP
    have hC := chain_any g 101 5 f f w.heap.size ts b x1 r (w.alloc (.cells ((Form.ops 5).map Value.string).toArray 9)) (enters_of Tryd.func101 (by kernel_rfl) rfl) hO hsub (Nat.le_refl _) hP hl (hs.alloc _) (Strs.made w _ _) hs.lt (by simp)
    have hg := hs.lt
    clear hP hsub hO hs
    go_enter Tryd.func93, Tryd.ntmps93
    go_wp2_with fail
    refine (hC).mono ?_
    rintro e w1 ⟨h, rfl, st, ly, ps⟩
    go_wp2_with fail
    go_ret
    exact ⟨h, rfl, (Step.of_below (below_new0 _ _) (Nat.le_of_lt hg)).trans st, ly, ps⟩

theorem cmp_ne : ⟨#[]⟩ ∉ Form.cmpOps := mem_no (by decide)
theorem un_ne : ⟨#[]⟩ ∉ Form.unOps := mem_no (by decide)
theorem hat_ne : ⟨#[]⟩ ∉ Form.hat := mem_no (by decide)
theorem opn_ne : ⟨#[]⟩ ∉ Form.opn := mem_no (by decide)
theorem cls_ne : ⟨#[]⟩ ∉ Form.cls := mem_no (by decide)
theorem ne_emp {l : List ByteArray} {op : ByteArray} (h : op ∈ l) (hn : ⟨#[]⟩ ∉ l) : op.toList.isEmpty = false := str_emp (fun e => hn (e ▸ h))
/-- take over a list that is laid for it -/
theorem take_lay_none (g : Nat) (l ts : List ByteArray) (b : Bool) (w : World) (t : TypeId) (hl : l.length ≤ 10) (hne : ⟨#[]⟩ ∉ l) (h : Form.take l ts = none) (hs : PS g w ts b) :
    Calls Tryd.prog 54 #[.pointer (some ⟨g, 0, none⟩), .slice (some ⟨w.heap.size, 0, none⟩) l.length l.length] (w.alloc (.cells (l.map Value.string).toArray t)) fun e w' => e = .returned (.string ⟨#[]⟩) ∧ w.alloc (.cells (l.map Value.string).toArray t) = w' :=
  take_none_any g w.heap.size l ts b _ hl (Strs.made w t l) hne h (hs.alloc _)
theorem take_lay_some (g : Nat) (l ts : List ByteArray) (b : Bool) (op : ByteArray) (r : List ByteArray) (w : World) (t : TypeId) (hl : l.length ≤ 10) (h : Form.take l ts = some (op, r)) (hs : PS g w ts b) (hr : ts.length ≤ 1000000) :
    Calls Tryd.prog 54 #[.pointer (some ⟨g, 0, none⟩), .slice (some ⟨w.heap.size, 0, none⟩) l.length l.length] (w.alloc (.cells (l.map Value.string).toArray t)) fun e w' => e = .returned (.string op) ∧ Step g w w' ∧ PS g w' r b :=
  (take_some_any g w.heap.size l ts b op r _ hl (Strs.made w t l) h (hs.alloc _) hr).mono fun _ _ ⟨h1, h2, h3⟩ => ⟨h1, (Step.of_below (below_new0 w _) (Nat.le_of_lt hs.lt)).trans h2, h3⟩
theorem Lay.alloc {g h : Nat} {T : Form.Tree} {w : World} (k : Lay g w T h) (hg : g < w.heap.size) (o : Obj) : Lay g (w.alloc o) T h := k.step (Step.of_below (below_new0 w o) (Nat.le_of_lt hg))

set_option maxHeartbeats 2000000 in
theorem comparison_step (f : Nat) (hO : Opd 77 f 3) : Opd 55 (f + 1) 2 := by
  intro g ts b r w hP hl hs
  rw [Form.P, if_pos rfl] at hP
  cases hx : Form.P f (.lv 3) ts b with
  | none => rw [hx] at hP; cases hP
  | some x =>
    rw [hx] at hP
    simp only at hP
    have hle := Form.P_len _ _ _ _ _ hx
    have h1 := hO g ts b x w hx hl hs
    cases ht : Form.take Form.cmpOps x.rest with
    | none =>
      rw [ht] at hP
      simp only [Option.some.injEq] at hP
      subst hP
      clear hO hs hx
      go_enter Tryd.func55, Tryd.ntmps55
      go_wp2_with fail
      refine h1.mono ?_
      rintro e w1 ⟨h, rfl, st, ly, ps⟩
      have hT := take_lay_none g Form.cmpOps x.rest x.bad w1 9 (by decide) cmp_ne ht ps
      have hg := ps.lt
      clear h1
      go_wp2_with fail
      refine hT.mono ?_
      rintro e w2 ⟨rfl, rfl⟩
      clear hT
      go_wp2_with fail
      go_ret
      exact ⟨h, rfl, st.alloc (Nat.le_of_lt hg) _, ly.alloc hg _, ps.alloc _⟩
    | some y =>
      obtain ⟨op, r2⟩ := y
      rw [ht] at hP
      simp only at hP
      have hop := ne_emp (Form.take_len ht).2.1 cmp_ne
      have hrl := (Form.take_len ht).1
      cases hy : Form.P f (.lv 3) r2 x.bad with
      | none => rw [hy] at hP; cases hP
      | some z =>
        rw [hy] at hP
        simp only [Option.some.injEq] at hP
        subst hP
        have h2 := fun w0 => hO g r2 x.bad z w0 hy (by omega)
        clear hO hs hx hy
        go_enter Tryd.func55, Tryd.ntmps55
        go_wp2_with fail
        refine h1.mono ?_
        rintro e w1 ⟨h, rfl, st, ly, ps⟩
        have hT := take_lay_some g Form.cmpOps x.rest x.bad op r2 w1 9 (by decide) ht ps (by omega)
        clear h1 ps
        go_wp2_with fail
        refine hT.mono ?_
        rintro e w2 ⟨rfl, st2, ps2⟩
        clear hT
        go_wp2_with fail
        refine (h2 _ ps2).mono ?_
        rintro e w3 ⟨h', rfl, st3, ly3, ps3⟩
        have hg := ps3.lt
        clear h2 ps2
        go_wp2_with fail
        go_ret
        exact ⟨w3.heap.size, rfl, ((st.trans st2).trans st3).alloc (Nat.le_of_lt hg) _, ⟨hg, h, h', Known.made w3 _ _, ((ly.step st2).step st3).alloc hg _, ly3.alloc hg _⟩, ps3.alloc _⟩

set_option maxHeartbeats 2000000 in
theorem unary_step (f : Nat) (hU : Opd 101 f 6) (hW : Opd 106 f 7) : Opd 101 (f + 1) 6 := by
  intro g ts b r w hP hl hs
  rw [Form.P, if_neg (by decide), if_pos rfl] at hP
  have hg := hs.lt
  cases ht : Form.take Form.unOps ts with
  | none =>
    rw [ht] at hP
    simp only at hP
    have h1 := fun w0 => hW g ts b r w0 hP hl
    have hT := take_lay_none g Form.unOps ts b w 9 (by decide) un_ne ht hs
    have hs1 := hs.alloc (.cells (Form.unOps.map Value.string).toArray 9)
    clear hU hW hs hP
    go_enter Tryd.func101, Tryd.ntmps101
    go_wp2_with fail
    refine hT.mono ?_
    rintro e w2 ⟨rfl, rfl⟩
    clear hT
    go_wp2_with fail
    refine (h1 _ hs1).mono ?_
    rintro e w3 ⟨h, rfl, st, ly, ps⟩
    clear h1 hs1
    go_wp2_with fail
    go_ret
    exact ⟨h, rfl, (Step.of_below (below_new0 _ _) (Nat.le_of_lt hg)).trans st, ly, ps⟩
  | some y =>
    obtain ⟨op, r2⟩ := y
    rw [ht] at hP
    simp only at hP
    have hop := ne_emp (Form.take_len ht).2.1 un_ne
    have hrl := (Form.take_len ht).1
    cases hy : Form.P f (.lv 6) r2 b with
    | none => rw [hy] at hP; cases hP
    | some z =>
      rw [hy] at hP
      simp only [Option.some.injEq] at hP
      subst hP
      have h2 := fun w0 => hU g r2 b z w0 hy (by omega)
      have hT := take_lay_some g Form.unOps ts b op r2 w 9 (by decide) ht hs (by omega)
      clear hU hW hs hy
      go_enter Tryd.func101, Tryd.ntmps101
      go_wp2_with fail
      refine hT.mono ?_
      rintro e w2 ⟨rfl, st2, ps2⟩
      clear hT
      go_wp2_with fail
      refine (h2 _ ps2).mono ?_
      rintro e w3 ⟨h', rfl, st3, ly3, ps3⟩
      have hg3 := ps3.lt
      clear h2 ps2
      go_wp2_with fail
      go_ret
      exact ⟨w3.heap.size, rfl, (st2.trans st3).alloc (Nat.le_of_lt hg3) _, ⟨hg3, h', Known.made w3 _ _, ly3.alloc hg3 _⟩, ps3.alloc _⟩

set_option maxHeartbeats 2000000 in
theorem power_step (f : Nat) (hO : Opd 108 f 8) (hU : Opd 101 f 6) : Opd 106 (f + 1) 7 := by
  intro g ts b r w hP hl hs
  rw [Form.P, if_neg (by decide), if_neg (by decide), if_pos rfl] at hP
  cases hx : Form.P f (.lv 8) ts b with
  | none => rw [hx] at hP; cases hP
  | some x =>
    rw [hx] at hP
    simp only at hP
    have hle := Form.P_len _ _ _ _ _ hx
    have h1 := hO g ts b x w hx hl hs
    cases ht : Form.take Form.hat x.rest with
    | none =>
      rw [ht] at hP
      simp only [Option.some.injEq] at hP
      subst hP
      clear hO hs hx hU
      go_enter Tryd.func106, Tryd.ntmps106
      go_wp2_with fail
      refine h1.mono ?_
      rintro e w1 ⟨h, rfl, st, ly, ps⟩
      have hT := take_lay_none g Form.hat x.rest x.bad w1 9 (by decide) hat_ne ht ps
      have hg := ps.lt
      clear h1
      go_wp2_with fail
      refine hT.mono ?_
      rintro e w2 ⟨rfl, rfl⟩
      clear hT
      go_wp2_with fail
      go_ret
      exact ⟨h, rfl, st.alloc (Nat.le_of_lt hg) _, ly.alloc hg _, ps.alloc _⟩
    | some y =>
      obtain ⟨op, r2⟩ := y
      rw [ht] at hP
      simp only at hP
      have hop := ne_emp (Form.take_len ht).2.1 hat_ne
      have hrl := (Form.take_len ht).1
      cases hy : Form.P f (.lv 6) r2 x.bad with
      | none => rw [hy] at hP; cases hP
      | some z =>
        rw [hy] at hP
        simp only [Option.some.injEq] at hP
        subst hP
        have h2 := fun w0 => hU g r2 x.bad z w0 hy (by omega)
        clear hO hs hx hy hU
        go_enter Tryd.func106, Tryd.ntmps106
        go_wp2_with fail
        refine h1.mono ?_
        rintro e w1 ⟨h, rfl, st, ly, ps⟩
        have hT := take_lay_some g Form.hat x.rest x.bad op r2 w1 9 (by decide) ht ps (by omega)
        clear h1 ps
        go_wp2_with fail
        refine hT.mono ?_
        rintro e w2 ⟨rfl, st2, ps2⟩
        clear hT
        go_wp2_with fail
        refine (h2 _ ps2).mono ?_
        rintro e w3 ⟨h', rfl, st3, ly3, ps3⟩
        have hg := ps3.lt
        clear h2 ps2
        go_wp2_with fail
        go_ret
        exact ⟨w3.heap.size, rfl, ((st.trans st2).trans st3).alloc (Nat.le_of_lt hg) _, ⟨hg, h, h', Known.made w3 _ _, ((ly.step st2).step st3).alloc hg _, ly3.alloc hg _⟩, ps3.alloc _⟩

end Go.Proofs.YtlkfnpmcihfjmaaDoor
