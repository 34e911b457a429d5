/-
  The claim's own texts, packed. Conditions: those typed in each theorem.
-/
import Derived.Test.YtcklofamaooegaaGreatDoorZKaak
import Derived.Shelf.Abstract
set_option maxHeartbeats 4000000
set_option maxRecDepth 10000
set_option linter.unusedVariables false
namespace Go.Proofs.YtcklofamaooegaaGreatDoor
open Go.RowKit
theorem formula_step (f : Nat) (hO : Opd 111 f 1) : Opd 53 (f + 1) 0 := by
 intro g ts b r w hP hl hs
 rw [Form.P, if_neg (by decide), if_neg (by decide), if_neg (by decide), if_neg (by decide)] at hP
 cases hsub : Form.P f (.lv 1) ts b with
 | none => rw [hsub] at hP; cases hP
 | some x1 =>
   rw [hsub] at hP
   simp only at hP
   have hC := chain_any g 111 0 f f w.heap.size ts b x1 r (w.alloc (.cells ((Form.ops 0).map Value.string).toArray 9)) (enters_of Tryz.func111 (by kernel_rfl) rfl) hO hsub (Nat.le_refl _) hP hl (hs.alloc _) (Strs.made w _ _) hs.lt (by simp)
   have hg := hs.lt
   clear hP hsub hO hs
   go_enter Tryz.func53, Tryz.ntmps53
   go_wp2_with fail
   refine (hC).mono ?_
   rintro e w1 ⟨h, rfl, st, ly, ps⟩
   go_wp2_with fail
   go_ret
   exact ⟨h, rfl, (Step.of_below (below_new0 _ _) (Nat.le_of_lt hg)).trans st, ly, ps⟩
theorem conjunction_step (f : Nat) (hO : Opd 168 f 2) : Opd 111 (f + 1) 1 := by
 intro g ts b r w hP hl hs
 rw [Form.P, if_neg (by decide), if_neg (by decide), if_neg (by decide), if_neg (by decide)] at hP
 cases hsub : Form.P f (.lv 2) ts b with
 | none => rw [hsub] at hP; cases hP
 | some x1 =>
   rw [hsub] at hP
   simp only at hP
   have hC := chain_any g 168 1 f f w.heap.size ts b x1 r (w.alloc (.cells ((Form.ops 1).map Value.string).toArray 9)) (enters_of Tryz.func168 (by kernel_rfl) rfl) hO hsub (Nat.le_refl _) hP hl (hs.alloc _) (Strs.made w _ _) hs.lt (by simp)
   have hg := hs.lt
   clear hP hsub hO hs
   go_enter Tryz.func111, Tryz.ntmps111
   go_wp2_with fail
   refine (hC).mono ?_
   rintro e w1 ⟨h, rfl, st, ly, ps⟩
   go_wp2_with fail
   go_ret
   exact ⟨h, rfl, (Step.of_below (below_new0 _ _) (Nat.le_of_lt hg)).trans st, ly, ps⟩
theorem sum_step (f : Nat) (hO : Opd 241 f 4) : Opd 220 (f + 1) 3 := by
 intro g ts b r w hP hl hs
 rw [Form.P, if_neg (by decide), if_neg (by decide), if_neg (by decide), if_neg (by decide)] at hP
 cases hsub : Form.P f (.lv 4) ts b with
 | none => rw [hsub] at hP; cases hP
 | some x1 =>
   rw [hsub] at hP
   simp only at hP
   have hC := chain_any g 241 3 f f w.heap.size ts b x1 r (w.alloc (.cells ((Form.ops 3).map Value.string).toArray 9)) (enters_of Tryz.func241 (by kernel_rfl) rfl) hO hsub (Nat.le_refl _) hP hl (hs.alloc _) (Strs.made w _ _) hs.lt (by simp)
   have hg := hs.lt
   clear hP hsub hO hs
   go_enter Tryz.func220, Tryz.ntmps220
   go_wp2_with fail
   refine (hC).mono ?_
   rintro e w1 ⟨h, rfl, st, ly, ps⟩
   go_wp2_with fail
   go_ret
   exact ⟨h, rfl, (Step.of_below (below_new0 _ _) (Nat.le_of_lt hg)).trans st, ly, ps⟩
theorem term_step (f : Nat) (hO : Opd 254 f 5) : Opd 241 (f + 1) 4 := by
 intro g ts b r w hP hl hs
 rw [Form.P, if_neg (by decide), if_neg (by decide), if_neg (by decide), if_neg (by decide)] at hP
 cases hsub : Form.P f (.lv 5) ts b with
 | none => rw [hsub] at hP; cases hP
 | some x1 =>
   rw [hsub] at hP
   simp only at hP
   have hC := chain_any g 254 4 f f w.heap.size ts b x1 r (w.alloc (.cells ((Form.ops 4).map Value.string).toArray 9)) (enters_of Tryz.func254 (by kernel_rfl) rfl) hO hsub (Nat.le_refl _) hP hl (hs.alloc _) (Strs.made w _ _) hs.lt (by simp)
   have hg := hs.lt
   clear hP hsub hO hs
   go_enter Tryz.func241, Tryz.ntmps241
   go_wp2_with fail
   refine (hC).mono ?_
   rintro e w1 ⟨h, rfl, st, ly, ps⟩
   go_wp2_with fail
   go_ret
   exact ⟨h, rfl, (Step.of_below (below_new0 _ _) (Nat.le_of_lt hg)).trans st, ly, ps⟩
theorem rounded_step (f : Nat) (hO : Opd 258 f 6) : Opd 254 (f + 1) 5 := by
 intro g ts b r w hP hl hs
 rw [Form.P, if_neg (by decide), if_neg (by decide), if_neg (by decide), if_neg (by decide)] at hP
 cases hsub : Form.P f (.lv 6) ts b with
 | none => rw [hsub] at hP; cases hP
 | some x1 =>
   rw [hsub] at hP
   simp only at hP
   have hC := chain_any g 258 5 f f w.heap.size ts b x1 r (w.alloc (.cells ((Form.ops 5).map Value.string).toArray 9)) (enters_of Tryz.func258 (by kernel_rfl) rfl) hO hsub (Nat.le_refl _) hP hl (hs.alloc _) (Strs.made w _ _) hs.lt (by simp)
   have hg := hs.lt
   clear hP hsub hO hs
   go_enter Tryz.func254, Tryz.ntmps254
   go_wp2_with fail
   refine (hC).mono ?_
   rintro e w1 ⟨h, rfl, st, ly, ps⟩
   go_wp2_with fail
   go_ret
   exact ⟨h, rfl, (Step.of_below (below_new0 _ _) (Nat.le_of_lt hg)).trans st, ly, ps⟩
theorem cmp_ne : ⟨#[]⟩ ∉ Form.cmpOps := mem_no (by decide)
theorem un_ne : ⟨#[]⟩ ∉ Form.unOps := mem_no (by decide)
theorem hat_ne : ⟨#[]⟩ ∉ Form.hat := mem_no (by decide)
theorem opn_ne : ⟨#[]⟩ ∉ Form.opn := mem_no (by decide)
theorem cls_ne : ⟨#[]⟩ ∉ Form.cls := mem_no (by decide)
theorem ne_emp {l : List ByteArray} {op : ByteArray} (h : op ∈ l) (hn : ⟨#[]⟩ ∉ l) : op.toList.isEmpty = false := str_emp (fun e => hn (e ▸ h))
theorem take_lay_none (g : Nat) (l ts : List ByteArray) (b : Bool) (w : World) (t : TypeId) (hl : l.length ≤ 10) (hne : ⟨#[]⟩ ∉ l) (h : Form.take l ts = none) (hs : PS g w ts b) :
  Calls Tryz.prog 167 #[.pointer (some ⟨g, 0, none⟩), .slice (some ⟨w.heap.size, 0, none⟩) l.length l.length] (w.alloc (.cells (l.map Value.string).toArray t)) fun e w' => e = .returned (.string ⟨#[]⟩) ∧ w.alloc (.cells (l.map Value.string).toArray t) = w' :=
 take_none_any g w.heap.size l ts b _ hl (Strs.made w t l) hne h (hs.alloc _)
theorem take_lay_some (g : Nat) (l ts : List ByteArray) (b : Bool) (op : ByteArray) (r : List ByteArray) (w : World) (t : TypeId) (hl : l.length ≤ 10) (h : Form.take l ts = some (op, r)) (hs : PS g w ts b) (hr : ts.length ≤ 1000000) :
  Calls Tryz.prog 167 #[.pointer (some ⟨g, 0, none⟩), .slice (some ⟨w.heap.size, 0, none⟩) l.length l.length] (w.alloc (.cells (l.map Value.string).toArray t)) fun e w' => e = .returned (.string op) ∧ Step g w w' ∧ PS g w' r b :=
 (take_some_any g w.heap.size l ts b op r _ hl (Strs.made w t l) h (hs.alloc _) hr).mono fun _ _ ⟨h1, h2, h3⟩ => ⟨h1, (Step.of_below (below_new0 w _) (Nat.le_of_lt hs.lt)).trans h2, h3⟩
theorem Lay.alloc {g h : Nat} {T : Form.Tree} {w : World} (k : Lay g w T h) (hg : g < w.heap.size) (o : Obj) : Lay g (w.alloc o) T h := k.step (Step.of_below (below_new0 w o) (Nat.le_of_lt hg))
theorem comparison_step (f : Nat) (hO : Opd 220 f 3) : Opd 168 (f + 1) 2 := by
 intro g ts b r w hP hl hs
 rw [Form.P, if_pos rfl] at hP
 cases hx : Form.P f (.lv 3) ts b with
 | none => rw [hx] at hP; cases hP
 | some x =>
   rw [hx] at hP
   simp only at hP
   have hle := Form.P_len _ _ _ _ _ hx
   have h1 := hO g ts b x w hx hl hs
   cases ht : Form.take Form.cmpOps x.rest with
   | none =>
     rw [ht] at hP
     simp only [Option.some.injEq] at hP
     subst hP
     clear hO hs hx
     go_enter Tryz.func168, Tryz.ntmps168
     go_wp2_with fail
     refine h1.mono ?_
     rintro e w1 ⟨h, rfl, st, ly, ps⟩
     have hT := take_lay_none g Form.cmpOps x.rest x.bad w1 9 (by decide) cmp_ne ht ps
     have hg := ps.lt
     clear h1
     go_wp2_with fail
     refine hT.mono ?_
     rintro e w2 ⟨rfl, rfl⟩
     clear hT
     go_wp2_with fail
     go_ret
     exact ⟨h, rfl, st.alloc (Nat.le_of_lt hg) _, ly.alloc hg _, ps.alloc _⟩
   | some y =>
     obtain ⟨op, r2⟩ := y
     rw [ht] at hP
     simp only at hP
     have hop := ne_emp (Form.take_len ht).2.1 cmp_ne
     have hrl := (Form.take_len ht).1
     cases hy : Form.P f (.lv 3) r2 x.bad with
     | none => rw [hy] at hP; cases hP
     | some z =>
       rw [hy] at hP
       simp only [Option.some.injEq] at hP
       subst hP
       have h2 := fun w0 => hO g r2 x.bad z w0 hy (by omega)
       clear hO hs hx hy
       go_enter Tryz.func168, Tryz.ntmps168
       go_wp2_with fail
       refine h1.mono ?_
       rintro e w1 ⟨h, rfl, st, ly, ps⟩
       have hT := take_lay_some g Form.cmpOps x.rest x.bad op r2 w1 9 (by decide) ht ps (by omega)
       clear h1 ps
       go_wp2_with fail
       refine hT.mono ?_
       rintro e w2 ⟨rfl, st2, ps2⟩
       clear hT
       go_wp2_with fail
       refine (h2 _ ps2).mono ?_
       rintro e w3 ⟨h', rfl, st3, ly3, ps3⟩
       have hg := ps3.lt
       clear h2 ps2
       go_wp2_with fail
       go_ret
       exact ⟨w3.heap.size, rfl, ((st.trans st2).trans st3).alloc (Nat.le_of_lt hg) _, ⟨hg, h, h', Known.made w3 _ _, ((ly.step st2).step st3).alloc hg _, ly3.alloc hg _⟩, ps3.alloc _⟩
theorem unary_step (f : Nat) (hU : Opd 258 f 6) (hW : Opd 259 f 7) : Opd 258 (f + 1) 6 := by
 intro g ts b r w hP hl hs
 rw [Form.P, if_neg (by decide), if_pos rfl] at hP
 have hg := hs.lt
 cases ht : Form.take Form.unOps ts with
 | none =>
   rw [ht] at hP
   simp only at hP
   have h1 := fun w0 => hW g ts b r w0 hP hl
   have hT := take_lay_none g Form.unOps ts b w 9 (by decide) un_ne ht hs
   have hs1 := hs.alloc (.cells (Form.unOps.map Value.string).toArray 9)
   clear hU hW hs hP
   go_enter Tryz.func258, Tryz.ntmps258
   go_wp2_with fail
   refine hT.mono ?_
   rintro e w2 ⟨rfl, rfl⟩
   clear hT
   go_wp2_with fail
   refine (h1 _ hs1).mono ?_
   rintro e w3 ⟨h, rfl, st, ly, ps⟩
   clear h1 hs1
   go_wp2_with fail
   go_ret
   exact ⟨h, rfl, (Step.of_below (below_new0 _ _) (Nat.le_of_lt hg)).trans st, ly, ps⟩
 | some y =>
   obtain ⟨op, r2⟩ := y
   rw [ht] at hP
   simp only at hP
   have hop := ne_emp (Form.take_len ht).2.1 un_ne
   have hrl := (Form.take_len ht).1
   cases hy : Form.P f (.lv 6) r2 b with
   | none => rw [hy] at hP; cases hP
   | some z =>
     rw [hy] at hP
     simp only [Option.some.injEq] at hP
     subst hP
     have h2 := fun w0 => hU g r2 b z w0 hy (by omega)
     have hT := take_lay_some g Form.unOps ts b op r2 w 9 (by decide) ht hs (by omega)
     clear hU hW hs hy
     go_enter Tryz.func258, Tryz.ntmps258
     go_wp2_with fail
     refine hT.mono ?_
     rintro e w2 ⟨rfl, st2, ps2⟩
     clear hT
     go_wp2_with fail
     refine (h2 _ ps2).mono ?_
     rintro e w3 ⟨h', rfl, st3, ly3, ps3⟩
     have hg3 := ps3.lt
     clear h2 ps2
     go_wp2_with fail
     go_ret
     exact ⟨w3.heap.size, rfl, (st2.trans st3).alloc (Nat.le_of_lt hg3) _, ⟨hg3, h', Known.made w3 _ _, ly3.alloc hg3 _⟩, ps3.alloc _⟩
theorem power_step (f : Nat) (hO : Opd 260 f 8) (hU : Opd 258 f 6) : Opd 259 (f + 1) 7 := by
 intro g ts b r w hP hl hs
 rw [Form.P, if_neg (by decide), if_neg (by decide), if_pos rfl] at hP
 cases hx : Form.P f (.lv 8) ts b with
 | none => rw [hx] at hP; cases hP
 | some x =>
   rw [hx] at hP
   simp only at hP
   have hle := Form.P_len _ _ _ _ _ hx
   have h1 := hO g ts b x w hx hl hs
   cases ht : Form.take Form.hat x.rest with
   | none =>
     rw [ht] at hP
     simp only [Option.some.injEq] at hP
     subst hP
     clear hO hs hx hU
     go_enter Tryz.func259, Tryz.ntmps259
     go_wp2_with fail
     refine h1.mono ?_
     rintro e w1 ⟨h, rfl, st, ly, ps⟩
     have hT := take_lay_none g Form.hat x.rest x.bad w1 9 (by decide) hat_ne ht ps
     have hg := ps.lt
     clear h1
     go_wp2_with fail
     refine hT.mono ?_
     rintro e w2 ⟨rfl, rfl⟩
     clear hT
     go_wp2_with fail
     go_ret
     exact ⟨h, rfl, st.alloc (Nat.le_of_lt hg) _, ly.alloc hg _, ps.alloc _⟩
   | some y =>
     obtain ⟨op, r2⟩ := y
     rw [ht] at hP
     simp only at hP
     have hop := ne_emp (Form.take_len ht).2.1 hat_ne
     have hrl := (Form.take_len ht).1
     cases hy : Form.P f (.lv 6) r2 x.bad with
     | none => rw [hy] at hP; cases hP
     | some z =>
       rw [hy] at hP
       simp only [Option.some.injEq] at hP
       subst hP
       have h2 := fun w0 => hU g r2 x.bad z w0 hy (by omega)
       clear hO hs hx hy hU
       go_enter Tryz.func259, Tryz.ntmps259
       go_wp2_with fail
       refine h1.mono ?_
       rintro e w1 ⟨h, rfl, st, ly, ps⟩
       have hT := take_lay_some g Form.hat x.rest x.bad op r2 w1 9 (by decide) ht ps (by omega)
       clear h1 ps
       go_wp2_with fail
       refine hT.mono ?_
       rintro e w2 ⟨rfl, st2, ps2⟩
       clear hT
       go_wp2_with fail
       refine (h2 _ ps2).mono ?_
       rintro e w3 ⟨h', rfl, st3, ly3, ps3⟩
       have hg := ps3.lt
       clear h2 ps2
       go_wp2_with fail
       go_ret
       exact ⟨w3.heap.size, rfl, ((st.trans st2).trans st3).alloc (Nat.le_of_lt hg) _, ⟨hg, h, h', Known.made w3 _ _, ((ly.step st2).step st3).alloc hg _, ly3.alloc hg _⟩, ps3.alloc _⟩
theorem dig_yes {t : ByteArray} (h : Form.dig1 t = true) : t.toList.isEmpty = false ∧ ∃ h : 0 < t.size, 48 ≤ t[0].toNat ∧ t[0].toNat ≤ 57 := by
 unfold Form.dig1 at h
 have e : t.data.toList.length = t.size := by simp
 cases hl : t.data.toList with
 | nil => rw [hl] at h; cases h
 | cons c r =>
   rw [hl] at h e
   have h0 : 0 < t.size := by simp at e; omega
   refine ⟨by rw [ByteArray.toList_eq, hl]; rfl, h0, ?_⟩
   have := Num.isD_iff.1 h
   rw [Num.at_list t 0 h0]
   simp only [hl, List.getElem_cons_zero]
   exact this
def NoDig (t : ByteArray) : Prop := t.toList.isEmpty = true ∨ t.toList.isEmpty = false ∧ (∃ h : 0 < t.size, t[0].toNat < 48) ∨ t.toList.isEmpty = false ∧ (∃ h : 0 < t.size, 48 ≤ t[0].toNat ∧ 57 < t[0].toNat)
theorem dig_no {t : ByteArray} (h : Form.dig1 t = false) : NoDig t := by
 unfold Form.dig1 at h
 have e : t.data.toList.length = t.size := by simp
 cases hl : t.data.toList with
 | nil => exact .inl (by rw [ByteArray.toList_eq, hl]; rfl)
 | cons c r =>
   rw [hl] at h e
   have h0 : 0 < t.size := by simp at e; omega
   have h1 : t.toList.isEmpty = false := by rw [ByteArray.toList_eq, hl]; rfl
   have h2 : t[0] = c := by rw [Num.at_list t 0 h0]; simp only [hl, List.getElem_cons_zero]
   have h' : Num.isD c = false := h
   have h3 := mt Num.isD_iff.2 (by rw [h']; simp)
   by_cases h4 : c.toNat < 48
   ·exact .inr (.inl ⟨h1, h0, by rw [h2]; exact h4⟩)
   ·exact .inr (.inr ⟨h1, h0, by rw [h2]; omega⟩)
theorem prim_num (g : Nat) (t : ByteArray) (r : List ByteArray) (b : Bool) (w : World) (hd1 : Form.dig1 t = true) (hr : r.length ≤ 1000) (hs : PS g w (t :: r) b) :
  Calls Tryz.prog 260 #[.pointer (some ⟨g, 0, none⟩)] w fun e w' => ∃ h, e = .returned (.pointer (some ⟨h, 0, none⟩)) ∧ Step g w w' ∧ Lay g w' (.num t) h ∧ PS g w' r b := by
 obtain ⟨n1, n2, n3, n4⟩ := dig_yes hd1
 have hK := peek_cons g t r b w hs
 have hg := hs.lt
 obtain ⟨q, u, c, c0, hc, c1, f0, f1, ct, hp, hq⟩ := hs.cons
 have HP := Lib.hid hp
 have HQ := Lib.hid hq
 clear hp hq hs hd1
 rcases Nat.eq_zero_or_pos c with hc0 | hc0
 ·subst hc0
  obtain rfl : r = [] := List.eq_nil_of_length_eq_zero (by omega)
  replace HQ := Lib.hid (HQ.out rfl)
  go_enter Tryz.func260, Tryz.ntmps260
  go_wp2_with fail
  refine hK.mono ?_
  rintro e w1 ⟨rfl, rfl⟩
  go_wp2_with fail
  go_ret
  have hz : (w.setCell ⟨g, 0, none⟩ (.slice (some ⟨q, u, none⟩) 0 0)).heap.size = w.heap.size := by simp
  exact ⟨_, rfl, ((Step.refl g w).put 0 _).alloc (by rw [hz]; omega) _, ⟨hg, by rw [← hz]; exact Known.made _ _ _⟩, HQ.out.alloc _⟩
 ·go_enter Tryz.func260, Tryz.ntmps260
  go_wp2_with fail
  refine hK.mono ?_
  rintro e w1 ⟨rfl, rfl⟩
  go_wp2_with fail
  go_ret
  have hz : (w.setCell ⟨g, 0, none⟩ (.slice (some ⟨q, u + 1, none⟩) r.length c)).heap.size = w.heap.size := by simp
  exact ⟨_, rfl, ((Step.refl g w).put 0 _).alloc (by rw [hz]; omega) _, ⟨hg, by rw [← hz]; exact Known.made _ _ _⟩, HP.out.alloc _⟩
theorem prim_bad (g : Nat) (ts : List ByteArray) (w : World) (hd1 : NoDig (hd ts)) (hs : PS g w ts true) :
  Calls Tryz.prog 260 #[.pointer (some ⟨g, 0, none⟩)] w fun e w' => ∃ h, e = .returned (.pointer (some ⟨h, 0, none⟩)) ∧ Step g w w' ∧ Lay g w' (.num ⟨#[]⟩) h ∧ PS g w' ts true := by
 have hK := peek_any g ts true w hs
 have hg := hs.lt
 obtain ⟨c1, f1, hp⟩ := hs.bad
 have HP := Lib.hid hp
 clear hp hs
 generalize hd ts = S at *
 rcases hd1 with n1 | ⟨n1, n2, n3⟩ | ⟨n1, n2, n3, n4⟩
 all_goals
  go_enter Tryz.func260, Tryz.ntmps260
  go_wp2_with fail
  refine hK.mono ?_
  rintro e w1 ⟨rfl, rfl⟩
  go_wp2_with fail
  go_ret
  have hz : (w.setCell ⟨g, 1, none⟩ (.bool true)).heap.size = w.heap.size := by simp
  exact ⟨_, rfl, ((Step.refl g w).put 1 _).alloc (by rw [hz]; omega) _, ⟨hg, by rw [← hz]; exact Known.made _ _ _⟩, (HP.out true).alloc _⟩
theorem prim_none (g : Nat) (ts : List ByteArray) (w : World) (hd1 : NoDig (hd ts)) (ht : Form.take Form.opn ts = none) (hs : PS g w ts false) :
  Calls Tryz.prog 260 #[.pointer (some ⟨g, 0, none⟩)] w fun e w' => ∃ h, e = .returned (.pointer (some ⟨h, 0, none⟩)) ∧ Step g w w' ∧ Lay g w' (.num ⟨#[]⟩) h ∧ PS g w' ts true := by
 have hK := peek_any g ts false w hs
 have hg := hs.lt
 have hT := take_lay_none g Form.opn ts false w 9 (by decide) opn_ne ht hs
 obtain ⟨c1, f1, hp⟩ := hs.bad
 have ps1 := hs.alloc (.cells (Form.opn.map Value.string).toArray 9)
 obtain ⟨d1, g1, -⟩ := ps1.bad
 have HP := Lib.hid (hp true)
 clear hp hs ps1
 generalize hd ts = S at *
 rcases hd1 with n1 | ⟨n1, n2, n3⟩ | ⟨n1, n2, n3, n4⟩
 all_goals
  go_enter Tryz.func260, Tryz.ntmps260
  go_wp2_with fail
  refine hK.mono ?_
  rintro e w1 ⟨rfl, rfl⟩
  go_wp2_with fail
  refine hT.mono ?_
  rintro e w2 ⟨rfl, rfl⟩
  go_wp2_with fail
  go_ret
  have hz : ((w.setCell ⟨g, 1, none⟩ (.bool true)).alloc (.cells (Form.opn.map Value.string).toArray 9)).heap.size = w.heap.size + 1 := by simp
  exact ⟨_, rfl, (((Step.refl g w).put 1 _).alloc (by simp; omega) _).alloc (by simp; omega) _, ⟨by omega, by rw [← hz]; exact Known.made _ _ _⟩, (HP.out.alloc _).alloc _⟩
theorem prim_open (f g : Nat) (ts : List ByteArray) (op : ByteArray) (r2 : List ByteArray) (x : Form.Res) (w : World) (hO : Opd 53 f 0) (hd1 : NoDig (hd ts)) (ht : Form.take Form.opn ts = some (op, r2)) (hx : Form.P f (.lv 0) r2 false = some x) (hl : ts.length ≤ 1000) (hs : PS g w ts false) :
  Calls Tryz.prog 260 #[.pointer (some ⟨g, 0, none⟩)] w fun e w' => ∃ h, e = .returned (.pointer (some ⟨h, 0, none⟩)) ∧ Step g w w' ∧ Lay g w' (Form.close x).T h ∧ PS g w' (Form.close x).rest (Form.close x).bad := by
 have hK := peek_any g ts false w hs
 have hg := hs.lt
 have hrl := (Form.take_len ht).1
 have hop := ne_emp (Form.take_len ht).2.1 opn_ne
 have hT := take_lay_some g Form.opn ts false op r2 w 9 (by decide) ht hs (by omega)
 have h2 := fun w0 => hO g r2 false x w0 hx (by omega)
 have hle := Form.P_len _ _ _ _ _ hx
 obtain ⟨c1, f1, hp⟩ := hs.bad
 clear hp hs hO hx
 generalize hd ts = S at *
 obtain ⟨T, rest, bad⟩ := x
 cases bad with
 | true =>
   have e : Form.close ⟨T, rest, true⟩ = ⟨.un ⟨#[40]⟩ T, rest, true⟩ := by simp [Form.close]
   rw [e]
   simp only at h2 hle ⊢
   rcases hd1 with n1 | ⟨n1, n2, n3⟩ | ⟨n1, n2, n3, n4⟩
   all_goals
    go_enter Tryz.func260, Tryz.ntmps260
    go_wp2_with fail
    refine hK.mono ?_
    rintro e w1 ⟨rfl, rfl⟩
    go_wp2_with fail
    refine hT.mono ?_
    rintro e w2 ⟨rfl, st2, ps2⟩
    go_wp2_with fail
    refine (h2 _ ps2).mono ?_
    rintro e w3 ⟨h, rfl, st3, ly3, ps3⟩
    obtain ⟨d1, g1, hq⟩ := ps3.bad
    have HQ := Lib.hid (hq true)
    have hg3 := ps3.lt
    clear hq ps2 ps3 hT h2 hK
    go_wp2_with fail
    go_ret
    have hz : (w3.setCell ⟨g, 1, none⟩ (.bool true)).heap.size = w3.heap.size := by simp
    have st4 := (st2.trans st3).put 1 (.bool true)
    exact ⟨_, rfl, st4.alloc (by rw [hz]; omega) _, ⟨hg3, h, by rw [← hz]; exact Known.made _ _ _, (ly3.step ((Step.refl g w3).put 1 _)).alloc (by rw [hz]; omega) _⟩, HQ.out.alloc _⟩
 | false =>
   simp only at h2 hle
   cases hc : Form.take Form.cls rest with
   | none =>
     have e : Form.close ⟨T, rest, false⟩ = ⟨.un ⟨#[40]⟩ T, rest, true⟩ := by simp [Form.close, hc]
     rw [e]
     simp only
     rcases hd1 with n1 | ⟨n1, n2, n3⟩ | ⟨n1, n2, n3, n4⟩
     all_goals
      go_enter Tryz.func260, Tryz.ntmps260
      go_wp2_with fail
      refine hK.mono ?_
      rintro e w1 ⟨rfl, rfl⟩
      go_wp2_with fail
      refine hT.mono ?_
      rintro e w2 ⟨rfl, st2, ps2⟩
      go_wp2_with fail
      refine (h2 _ ps2).mono ?_
      rintro e w3 ⟨h, rfl, st3, ly3, ps3⟩
      have hT2 := take_lay_none g Form.cls rest false w3 9 (by decide) cls_ne hc ps3
      obtain ⟨d1, g1, hq⟩ := ps3.bad
      have hg3 := ps3.lt
      have ps4 := ps3.alloc (.cells (Form.cls.map Value.string).toArray 9)
      obtain ⟨d2, g2, -⟩ := ps4.bad
      have HQ := Lib.hid (hq true)
      clear hq ps2 ps3 ps4 hT h2 hK
      go_wp2_with fail
      refine hT2.mono ?_
      rintro e w4 ⟨rfl, rfl⟩
      clear hT2
      go_wp2_with fail
      go_ret
      have hz : ((w3.setCell ⟨g, 1, none⟩ (.bool true)).alloc (.cells (Form.cls.map Value.string).toArray 9)).heap.size = w3.heap.size + 1 := by simp
      have sp := (Step.refl g w3).put 1 (.bool true)
      have sa := sp.alloc (by simp; omega) (.cells (Form.cls.map Value.string).toArray 9)
      exact ⟨_, rfl, ((st2.trans st3).trans sa).alloc (by rw [hz]; omega) _, ⟨by omega, h, by rw [← hz]; exact Known.made _ _ _, (ly3.step sa).alloc (by rw [hz]; omega) _⟩, (HQ.out.alloc _).alloc _⟩
   | some y =>
     obtain ⟨op', r3⟩ := y
     have e : Form.close ⟨T, rest, false⟩ = ⟨.un ⟨#[40]⟩ T, r3, false⟩ := by simp [Form.close, hc]
     have hop' := ne_emp (Form.take_len hc).2.1 cls_ne
     rw [e]
     simp only
     rcases hd1 with n1 | ⟨n1, n2, n3⟩ | ⟨n1, n2, n3, n4⟩
     all_goals
      go_enter Tryz.func260, Tryz.ntmps260
      go_wp2_with fail
      refine hK.mono ?_
      rintro e w1 ⟨rfl, rfl⟩
      go_wp2_with fail
      refine hT.mono ?_
      rintro e w2 ⟨rfl, st2, ps2⟩
      go_wp2_with fail
      refine (h2 _ ps2).mono ?_
      rintro e w3 ⟨h, rfl, st3, ly3, ps3⟩
      have hT2 := take_lay_some g Form.cls rest false op' r3 w3 9 (by decide) hc ps3 (by omega)
      obtain ⟨d1, g1, -⟩ := ps3.bad
      clear ps2 ps3 hT h2 hK
      go_wp2_with fail
      refine hT2.mono ?_
      rintro e w4 ⟨rfl, st4, ps4⟩
      clear hT2
      obtain ⟨d2, g2, hq⟩ := ps4.bad
      have HQ := Lib.hid (hq false)
      have hg4 := ps4.lt
      clear hq ps4
      go_wp2_with fail
      go_ret
      have hz : (w4.setCell ⟨g, 1, none⟩ (.bool false)).heap.size = w4.heap.size := by simp
      have st5 := (Step.refl g w4).put 1 (.bool false)
      exact ⟨_, rfl, (((st2.trans st3).trans st4).trans st5).alloc (by rw [hz]; omega) _, ⟨hg4, h, by rw [← hz]; exact Known.made _ _ _, ((ly3.step st4).step st5).alloc (by rw [hz]; omega) _⟩, HQ.out.alloc _⟩
theorem primary_step (f : Nat) (hO : Opd 53 f 0) : Opd 260 (f + 1) 8 := by
 intro g ts b r w hP hl hs
 rw [Form.P, if_neg (by decide), if_neg (by decide), if_neg (by decide), if_pos rfl] at hP
 by_cases hd1 : (ts.head?.map Form.dig1).getD false = true
 ·rw [if_pos hd1] at hP
  simp only [Option.some.injEq] at hP
  subst hP
  cases ts with
  | nil => cases hd1
  | cons t r => exact prim_num g t r b w hd1 (by simp at hl; omega) hs
 ·rw [if_neg hd1] at hP
  have hn : NoDig (hd ts) := by
   cases ts with
   | nil => exact dig_no (by decide)
   | cons t r => exact dig_no (show Form.dig1 t = false by simpa using hd1)
  cases b with
  | true =>
    have e : Form.prim ts true = none := rfl
    rw [e] at hP
    simp only [Option.some.injEq] at hP
    subst hP
    exact prim_bad g ts w hn hs
  | false =>
    cases ht : Form.take Form.opn ts with
    | none =>
      have e : Form.prim ts false = none := by simp [Form.prim, ht]
      rw [e] at hP
      simp only [Option.some.injEq] at hP
      subst hP
      exact prim_none g ts w hn ht hs
    | some y =>
      obtain ⟨op, r2⟩ := y
      have e : Form.prim ts false = some r2 := by simp [Form.prim, ht]
      rw [e] at hP
      simp only at hP
      cases hx : Form.P f (.lv 0) r2 false with
      | none => rw [hx] at hP; cases hP
      | some x =>
        rw [hx] at hP
        simp only [Option.some.injEq] at hP
        subst hP
        exact prim_open f g ts op r2 x w hO hn ht hx hl hs
theorem levels_any (f : Nat) : Opd 53 f 0 ∧ Opd 111 f 1 ∧ Opd 168 f 2 ∧ Opd 220 f 3 ∧ Opd 241 f 4
  ∧ Opd 254 f 5 ∧ Opd 258 f 6 ∧ Opd 259 f 7 ∧ Opd 260 f 8 := by
 induction f with
 | zero => refine ⟨?_, ?_, ?_, ?_, ?_, ?_, ?_, ?_, ?_⟩ <;> (intro g ts b r w hP; simp [Form.P] at hP)
 | succ f ih =>
   obtain ⟨i0, i1, i2, i3, i4, i5, i6, i7, i8⟩ := ih
   exact ⟨formula_step f i1, conjunction_step f i2, comparison_step f i3, sum_step f i4, term_step f i5, rounded_step f i6, unary_step f i6 i7, power_step f i8 i6, primary_step f i0⟩
end Go.Proofs.YtcklofamaooegaaGreatDoor
