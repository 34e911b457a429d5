/-
  The claim's own texts, packed. Conditions: those typed in each theorem.
-/
import Derived.Test.YthieinfonomeeaaGreatDoorZAat
import Derived.Lib.AppendStr
namespace Go.Proofs.YthieinfonomeeaaGreatDoor
open Go.RowKit Doc Tit Inl Go.Lib
set_option linter.unusedVariables false
attribute [local go_sem ↓] Go.wp_at_zero Go.wp_at_succ
theorem run_append_text (w : World) (ty : TypeId) {B : Nat} {v : Value} {l : List UInt8} (h : BOwn B w v l) (s : ByteArray) (hl : l.length + s.size ≤ 4000000000) (hB : B ≤ w.heap.size) :
  ∃ v' w', (Builtin.append_ #[69, 9] ty #[v, .string s]).run Tryz.prog w = .ok v' w' ∧ BOwn B w' v' (l ++ s.data.toList) ∧ w.grownBy w' v.ownBlock ∧ ∀ k, v'.ownBlock = some k → v.ownBlock = some k ∨ k = w.heap.size := by
 obtain ⟨i, hi, hz, hsize, hby⟩ := info_parts infoU
 have hs : strCells s = bys s.data.toList := rfl
 have hzl : s.data.toList.length = s.size := by simp
 obtain ⟨v', w', hr, h1, h2, _⟩ := run_append_own_string (P := Tryz.prog) w B 69 9 ty 5 i Tryz.underlying69 Tryz.underlying9 hi hz hsize hby v l.length _ h s (by unfold maxLen; omega) (by omega) hB
 refine ⟨v', w', hr, by unfold BOwn; rw [List.length_append, bys_app, hzl, ← hs]; exact h1, h2, ?_⟩
 intro k hk
 have hxl : (bys l).length = l.length := bys_len l
 rcases h.2 with ⟨rfl, h0⟩ | ⟨g, cap, cur, rfl, hbg, hg, hnc, hcm, hcs, htake⟩
 ·have hl0 : l = [] := List.eq_nil_of_length_eq_zero h0
  subst hl0
  by_cases hm : s.size = 0
  ·have h3 : v'.ownBlock = some k := hk
   rcases h1.2 with ⟨rfl, _⟩ | ⟨g', cap', cur', rfl, _, hg', _, _, _, _⟩
   ·cases hk
   ·have hf := run_firstCells_string (P := Tryz.prog) w 1 s
    rw [hm] at hf
    have hr2 : (Builtin.append_ #[69, 9] ty #[.slice none 0 0, .string s]).run Tryz.prog w = .ok (.slice none 0 0) w := by
     simp [Builtin.append_, run_underlying Tryz.underlying69, run_underlying Tryz.underlying9, sizeOf, typeInfo, hi, hsize, Builtin.lenOf, hm, hf]
    rw [hr2] at hr
    injection hr with e1 e2
    cases e1
  ·have hr2 := run_append_nil_string (P := Tryz.prog) w 69 9 ty 5 i (.int .u8 0) Tryz.underlying69 Tryz.underlying9 hi hz s (by omega) (by omega) (by rw [hby]; omega)
   rw [hr2] at hr
   injection hr with e1 e2
   subst e1
   exact .inr (Option.some.inj hk).symm
 ·by_cases hroom : l.length + s.size ≤ cap
  ·have hcs' : cur.size = cap := by simpa using hcs
   have hr2 := run_append_room_string (P := Tryz.prog) w 69 9 ty 5 i Tryz.underlying69 Tryz.underlying9 hi hsize g l.length cap cur hg s hroom (by omega)
   rw [hr2] at hr
   injection hr with e1 e2
   subst e1
   exact .inl hk
  ·have holds : ∀ j u, (bys l)[j]? = some u → w.cell? ((⟨g, 0, none⟩ : Addr).add j) = some u := World.ownsRow.cells (g := g) h rfl
   have hr2 := run_append_grow_string (P := Tryz.prog) w 69 9 ty 5 i (.int .u8 0) Tryz.underlying69 Tryz.underlying9 hi hz ⟨g, 0, none⟩ l.length cap (bys l) (by rw [hsize]; simpa using hxl) holds s (by omega) (by omega) (by rw [hby]; exact growslice_fits (by omega) (by omega))
   rw [hr2] at hr
   injection hr with e1 e2
   subst e1
   exact .inr (Option.some.inj hk).symm
theorem step_append_text (w : World) {ops : Array Oper} {o : Oper} {a : Act} {K : Act → World → Prop} {Q : Exit → Act → World → Prop} {E : Prop} (hgd : o.guard = none) (s x : Operand)
  (ho : o.op = .call { callee := .builtin .append, args := #[s, x], argTypes := #[69, 9] })
  {B : Nat} {v : Value} {l : List UInt8} (hown : BOwn B w v l) (hs : a.eval s = v) (t : ByteArray) (hx : a.eval x = .string t) (hl : l.length + t.size ≤ 4000000000) (hB : B ≤ w.heap.size)
  (h : ∀ v' w', BOwn B w' v' (l ++ t.data.toList) → w.grownBy w' v.ownBlock → (∀ k, v'.ownBlock = some k → v.ownBlock = some k ∨ k = w.heap.size) → K (a.put o.dst v') w') :
  if Region.wanted o (yielded ops a.tmps) = true then Oper.wp Tryz.prog o a w K Q else E := by
 have hw : Region.wanted o (yielded ops a.tmps) = true := by simp [Region.wanted, hgd]
 rw [if_pos hw]
 obtain ⟨v', w', hr, h2, h3, h4⟩ := run_append_text w o.type hown t hl hB
 unfold Oper.wp execOp
 simp only [ho, resolve, invoke, builtin, Sem.run_bind, Sem.run_pure, Result.andThen_ok, List.map_toArray, List.map_cons, List.map_nil, hs, hx, hr]
 exact h v' w' h2 h3 h4
theorem step_append_bytes (w : World) {ops : Array Oper} {o : Oper} {a : Act} {K : Act → World → Prop} {Q : Exit → Act → World → Prop} {E : Prop} (hgd : o.guard = none) (s x : Operand)
  (ho : o.op = .call { callee := .builtin .append, args := #[s, x], argTypes := #[69, 69] })
  {B : Nat} {v : Value} {l ys : List UInt8} (hown : BOwn B w v l) (hs : a.eval s = v) {sv : Value} (hsrc : Src w sv ys.length (bys ys)) (hx : a.eval x = sv) (hl : l.length + ys.length ≤ 4000000000) (hB : B ≤ w.heap.size)
  (h : ∀ v' w', BOwn B w' v' (l ++ ys) → w.grownBy w' v.ownBlock → (v'.ownBlock = v.ownBlock ∨ v'.ownBlock = some w.heap.size) → K (a.put o.dst v') w') :
  if Region.wanted o (yielded ops a.tmps) = true then Oper.wp Tryz.prog o a w K Q else E := by
 obtain ⟨i, hi, hz, hsize, hby⟩ := info_parts infoU
 have hw : Region.wanted o (yielded ops a.tmps) = true := by simp [Region.wanted, hgd]
 rw [if_pos hw]
 have hone : ∀ u ∈ bys ys, u.oneCell' = true := by
  intro u hu
  simp only [bys, List.mem_map] at hu
  obtain ⟨n, _, rfl⟩ := hu
  rfl
 obtain ⟨v', w', hr, h1, h2, h3⟩ := run_append_src (P := Tryz.prog) w 69 o.type B 5 i _ 1 1 Tryz.underlying69 hi hz hsize hby rfl (by decide) v l.length _ hown sv ys.length _ hsrc (by simp [bys]) hone (by unfold maxLen; omega) (by omega) hB
 unfold Oper.wp execOp
 simp only [ho, resolve, invoke, builtin, Sem.run_bind, Sem.run_pure, Result.andThen_ok, List.map_toArray, List.map_cons, List.map_nil, hs, hx, hr]
 exact h v' w' (by unfold BOwn; rw [List.length_append, bys_app]; exact h1) h2 h3
theorem text_grown {B g : Nat} {W V w4 : World} {T : Rows} {ov tv v4 : Value} {D : Nat → Prop} {p p' : List UInt8} (hT : PRT B g W T ov tv p D) (hVz : W.heap.size ≤ V.heap.size) (hV : ∀ j, j < W.heap.size → V.heap[j]? = W.heap[j]?) (hVB : Below B W V)
  (hown : BOwn B w4 v4 p') (hgr : V.grownBy w4 tv.ownBlock) (hat : ∀ k, v4.ownBlock = some k → tv.ownBlock = some k ∨ W.heap.size ≤ k) :
  ∃ q c, v4 = .slice q p'.length c ∧ Known w4 g 123 #[ov, tv] ∧ g < w4.heap.size ∧ Turned B g W (w4.setCell ⟨g, 1, none⟩ (.slice q p'.length c)) (ops T) p' D := by
 obtain ⟨q, c, rfl⟩ := hown.form
 have hgl := hT.lt
 have hblk : ∀ j, j < W.heap.size → tv.ownBlock ≠ some j → w4.heap[j]? = W.heap[j]? := fun j hj hne => (hgr.block j (by omega) (fun e => hne e.symm)).trans (hV j hj)
 have hk4 : Known w4 g 123 #[ov, tv] := (hblk g hgl hT.tg).trans hT.kn
 have hvg : ∀ k, (Value.slice q p'.length c).ownBlock = some k → k ≠ g ∧ (tv.ownBlock = some k ∨ W.heap.size ≤ k) := fun k hk => by
  refine ⟨fun e => ?_, hat k hk⟩
  rcases hat k hk with h | h
  ·exact hT.tg (by rw [← e]; exact h)
  ·omega
 refine ⟨q, c, rfl, hk4, hk4.lt, ?_⟩
 have hz4 := hgr.size
 have hkeep : ∀ k, k < W.heap.size → k ≠ g → tv.ownBlock ≠ some k → (w4.setCell ⟨g, 1, none⟩ (.slice q p'.length c)).heap[k]? = W.heap[k]? := fun j hj h1 h2 => (Below.heap_setCell _ _ _ _ (show j ≠ g from h1)).trans (hblk j hj h2)
 have hP := hT.text (W := w4.setCell ⟨g, 1, none⟩ (.slice q p'.length c)) (tv' := .slice q p'.length c) (p' := p') (by rw [World.size_setCell]; omega) hkeep (hk4.put 1 _)
  (hown.on fun k hk => Below.heap_setCell _ _ _ _ (show k ≠ g from (hvg k hk).1)) hvg
 refine ⟨_, fun j hj hl => ⟨⟨hj, hl⟩, hkeep j hl (hT.dead j hj).1 (hT.dead j hj).2.2.1⟩, ⟨_, _, _, hP, rfl⟩, ?_⟩
 have h1 : Below B W w4 := hVB.grown hgr (by have := hT.le; omega) fun j hj => (World.ownsRow.lt hT.txt j hj).1
 exact h1.setCell (p := ⟨g, 1, none⟩) hT.le _
end Go.Proofs.YthieinfonomeeaaGreatDoor
namespace Go.Proofs.YthieinfonomeeaaGreatDoor
open Go.RowKit Doc Tit Inl
set_option linter.unusedVariables false
attribute [local go_sem ↓] Go.wp_at_zero Go.wp_at_succ
theorem left_cases {q : Nat} (h : 2 ≤ q) : left q = 2 ∨ left q = 3 ∨ left q = 5 := by
 unfold left
 split
 ·omega
 ·omega
theorem left_le (q : Nat) (h : 2 ≤ q) : left q ≤ q := by
 unfold left
 split
 ·omega
 ·omega
theorem take_quotes {l : List UInt8} {d : Nat} (h : d ≤ (l.takeWhile (fun c => decide (c = 39))).length) : l.take d = List.replicate d 39 := by
 induction l generalizing d with
 | nil => simp at h; subst h; rfl
 | cons a r ih =>
   cases d with
   | zero => rfl
   | succ d =>
     rw [List.takeWhile_cons] at h
     by_cases e : a = 39
     ·subst e
      simp only [decide_true, if_true, List.length_cons] at h
      rw [List.take_succ_cons, List.replicate_succ, ih (by omega)]
     ·rw [if_neg (by simpa using e)] at h; simp at h
theorem PP.text {B g : Nat} {w w' : World} {s : S} {D : Nat → Prop} {p : List UInt8} {T : Rows} (hs : PP B g w s D) (hTL : ops T = s.stk.reverse) (h : Turned B g w w' (ops T) p D) (hm : tot s.stk + p.length ≤ 1000000000) : PTurn B g w w' ⟨s.stk, p⟩ D := by
 obtain ⟨D', h1, h2, h3⟩ := h
 rw [hTL] at h2
 exact ⟨D', h1, ⟨h2, hs.ok, hm⟩, h3⟩
set_option maxRecDepth 10000 in
set_option maxHeartbeats 4000000 in
theorem pquotes_any (B g : Nat) (w : World) (s : S) (D : Nat → Prop) (t : ByteArray) (h : PP B g w s D) (hs : t.size ≤ 100000000) (q : Nat) (hq : q = (t.data.toList.takeWhile (fun c => decide (c = 39))).length) (hm : s.m + q ≤ 1000000000) :
  Calls Tryz.prog 130 #[.pointer (some ⟨g, 0, none⟩), .string t] w fun e w' => e = .returned (.int .i64 (if q < 2 then 0 else (q : Int))) ∧ PTurn B g w w' (if q < 2 then s else s.quotes q) D := by
 have hz : t.data.toList.length = t.size := by simp
 have hqs : q ≤ t.size := by rw [hq, ← hz]; exact tw_le _ _
 have hR := prun_any 153 (fun c => decide (c = 39)) t w enters_quote pquote_any hs
 rw [← hq] at hR
 have htq := fun d (h : d ≤ q) => take_quotes (l := t.data.toList) (d := d) (by rw [← hq]; exact h)
 have HR := Lib.hid hR
 have HTQ := Lib.hid htq
 have HP := Lib.hid h
 have HM := Lib.hid hm
 clear hR hq htq h hz hm
 by_cases h2 : q < 2
 ·rw [if_pos h2, if_pos h2]
  have g1 : decide (q < 2) = true := decide_eq_true h2
  have g1' : decide ((q : Int) < 2) = true := decide_eq_true (by omega)
  clear h2
  go_enter Tryz.func130, Tryz.ntmps130
  go_wp2_with fail
  refine HR.out.mono ?_
  rintro e w1 ⟨rfl, rfl⟩
  go_wp2_with fail
  go_ret
  exact ⟨rfl, D, fun k hk _ => ⟨hk, rfl⟩, HP.out, Below.refl _ _⟩
 ·have g1 : decide (q < 2) = false := decide_eq_false h2
  have g1' : decide ((q : Int) < 2) = false := decide_eq_false (by omega)
  rw [if_neg h2, if_neg h2]
  go_enter Tryz.func130, Tryz.ntmps130
  go_wp2_with fail
  refine HR.out.mono ?_
  rintro e w1 ⟨rfl, rfl⟩
  have hlc := left_cases (q := q) (by omega)
  have hll := left_le q (by omega)
  obtain ⟨lf, hlf⟩ : ∃ lf, lf = left q := ⟨_, rfl⟩
  have hsq : s.quotes q = (let a : S := ⟨s.stk, s.pend ++ List.replicate (q - lf) 39⟩
   let b := if 3 ≤ lf then a.toggle 2 else a
   if lf ≠ 3 then b.toggle 3 else b) := by rw [hlf]; rfl
  rw [← hlf] at hlc hll
  have HLF := Lib.hid hlf
  have HSQ := Lib.hid hsq
  clear hlf hsq
  obtain ⟨mn, hmn⟩ : ∃ mn, min (q : Int) 5 = mn := ⟨_, rfl⟩
  have hml : q ≠ 4 → mn = (lf : Int) := fun h => by rw [← hmn, HLF.out]; unfold left; rw [if_neg h]; omega
  have hm4 : q = 4 → (3 : Int) = (lf : Int) := fun h => by rw [HLF.out, h]; rfl
  have HML := Lib.hid hml
  have HM4 := Lib.hid hm4
  clear hml hm4
  go_upto_if 14 with fail
  go_cut [6] from 14 to 14 (fun s6 wc => s6 = .int .i64 (lf : Int) ∧ w = wc)
  case first =>
   by_cases h4 : q = 4
   ·have g4 : ((q : Int) == 4) = true := by simp; omega
    have hl3 := HM4.out h4
    have HL3 := Lib.hid hl3
    clear hl3 h4 hlc hll h2 hmn
    go_wp2_with fail
    go_meet
    case rel => exact ⟨by rw [HL3.out], by first | rfl | trivial⟩
   ·have g4 : ((q : Int) == 4) = false := by simp; omega
    have hl3 := HML.out h4
    have HL3 := Lib.hid hl3
    clear hl3 h4 hlc hll h2 hmn
    go_wp2_with fail
    go_meet
    case rel => exact ⟨by rw [HL3.out], by first | rfl | trivial⟩
  case rest =>
   obtain ⟨rfl, rfl⟩ := hcut
   obtain ⟨T, ov, tv, hT, hTL⟩ := HP.out.rd
   obtain ⟨d, hd⟩ : ∃ d, d = q - lf := ⟨_, rfl⟩
   have hex : (t.extract 0 d).data.toList = List.replicate d 39 := by rw [Lib.extract_from_zero]; exact HTQ.out d (by omega)
   have hexz : (t.extract 0 d).size = d := by rw [ByteArray.size_extract]; omega
   obtain ⟨X, hX⟩ : ∃ X, X = t.extract 0 d := ⟨_, rfl⟩
   rw [← hX] at hex hexz
   have hwr : IntKind.i64.wrap ((q : Int) - (lf : Int)) = (d : Int) := by
    rw [show (q : Int) - (lf : Int) = (d : Int) by omega]
    exact IntWalk.i64_in _ (by omega)
   obtain ⟨d0, d1⟩ := hT.kn.two
   have f1 := hT.kn.free 1
   have hgl := hT.lt
   have hBg := hT.le
   have j1 : (0 : Int) ≤ (d : Int) := by omega
   have j2 : (d : Int) ≤ (t.size : Int) := by omega
   have j3 : d ≤ t.size := by omega
   have hpl : s.pend.length ≤ 1000000000 := by have := HP.out.m; unfold S.m at this; omega
   have hBW : B ≤ w.heap.size := by omega
   have HT := Lib.hid hT
   have HTL := Lib.hid hTL
   have HEX := Lib.hid hex
   have HXZ := Lib.hid hexz
   have HD := Lib.hid hd
   have HX := Lib.hid hX
   have hts : t.size ≤ 100000000 := hs
   have hxs : X.size ≤ 100000000 := by omega
   clear hT hTL hex hexz hd hX
   go_wp2_with fail
   go_region_law (first
    | (refine step_append_text _ (by rfl) _ _ (by rfl) (HT.out.txt.below (Below.refl _ _).drew) (by rfl) (t.extract 0 d) (by rfl) (by rw [← HX.out]; omega) (by simp; omega) ?_; intro v4 w4 hown4 hgr4 hat4
       rw [← HX.out, HEX.out] at hown4
       obtain ⟨tq, tc, rfl, hkn4, hgl4, htu⟩ := text_grown (V := w.drew) HT.out (Nat.le_refl _) (fun j hj => rfl) (Below.refl B w).drew hown4 hgr4 (fun k hk => by
        rcases hat4 k hk with h | h
        ·exact .inl h
        ·exact .inr (by rw [h]; exact Nat.le_refl _))
       obtain ⟨N4, hN4⟩ : ∃ N4, N4 = (s.pend ++ List.replicate d 39).length := ⟨_, rfl⟩
       rw [← hN4] at htu ⊢
       clear hN4
       obtain ⟨d0, d1⟩ := hkn4.two
       have f1 := hkn4.free 1
       have HTU := Lib.hid htu
       clear hkn4 htu hown4 hgr4 hat4))
   all_goals
    have hpt := PP.text HP.out HTL.out HTU.out (by
     have h1 := HM.out
     have h2 := HD.out
     rw [List.length_append, List.length_replicate]
     unfold S.m at h1; omega)
    obtain ⟨sa, hsa⟩ : ∃ sa : S, sa = ⟨s.stk, s.pend ++ List.replicate d 39⟩ := ⟨_, rfl⟩
    rw [← hsa] at hpt
    have hsq := HSQ.out
    rw [← HD.out, ← hsa] at hsq
    obtain ⟨Da, ka, pa, ba⟩ := hpt
    have HKA := Lib.hid ka
    have HPA := Lib.hid pa
    have HBA := Lib.hid ba
    have HSQ2 := Lib.hid hsq
    clear ka pa ba hsa hsq HTU HT HTL HSQ
    rcases hlc with rfl | rfl | rfl
    ·have HC5 := Lib.hid (pchange_p B g _ sa Da 3 HPA.out (by omega))
     go_wp2_with fail
     refine HC5.out.mono ?_
     rintro e w5 ⟨rfl, D5, k5, p5, b5⟩
     have HK5 := Lib.hid k5
     have HP5 := Lib.hid p5
     have HB5 := Lib.hid b5
     clear k5 p5 b5
     go_wp2_with fail
     go_ret
     refine ⟨rfl, ?_⟩
     rw [HSQ2.out]
     exact PTurn.after HKA.out HBA.out ⟨D5, HK5.out, HP5.out, HB5.out⟩
    ·have HC5 := Lib.hid (pchange_p B g _ sa Da 2 HPA.out (by omega))
     go_wp2_with fail
     refine HC5.out.mono ?_
     rintro e w5 ⟨rfl, D5, k5, p5, b5⟩
     have HK5 := Lib.hid k5
     have HP5 := Lib.hid p5
     have HB5 := Lib.hid b5
     clear k5 p5 b5
     go_wp2_with fail
     go_ret
     refine ⟨rfl, ?_⟩
     rw [HSQ2.out]
     exact PTurn.after HKA.out HBA.out ⟨D5, HK5.out, HP5.out, HB5.out⟩
    ·have HC5 := Lib.hid (pchange_p B g _ sa Da 2 HPA.out (by omega))
     go_wp2_with fail
     refine HC5.out.mono ?_
     rintro e w5 ⟨rfl, D5, k5, p5, b5⟩
     have HK5 := Lib.hid k5
     have HP5 := Lib.hid p5
     have HB5 := Lib.hid b5
     clear k5 p5 b5
     have HC6 := Lib.hid (pchange_p B g w5 _ D5 3 HP5.out (by omega))
     go_wp2_with fail
     refine HC6.out.mono ?_
     rintro e w6 ⟨rfl, D6, k6, p6, b6⟩
     have HK6 := Lib.hid k6
     have HP6 := Lib.hid p6
     have HB6 := Lib.hid b6
     clear k6 p6 b6
     go_wp2_with fail
     go_ret
     refine ⟨rfl, ?_⟩
     rw [HSQ2.out]
     exact PTurn.after (HKA.out.trans HK5.out) (HBA.out.trans HB5.out) ⟨D6, HK6.out, HP6.out, HB6.out⟩
end Go.Proofs.YthieinfonomeeaaGreatDoor
namespace Go.Proofs.YthieinfonomeeaaGreatDoor
open Go.RowKit Doc Tit Inl
set_option linter.unusedVariables false
attribute [local go_sem ↓] Go.wp_at_zero Go.wp_at_succ
theorem decFrom_digits : ∀ (l : List UInt8) (n : Nat), (∀ c ∈ l, dg c = true) → Lib.decFrom n l = some (l.foldl (fun n c => n * 10 + (c.toNat - 48)) n)
 | [], n, _ => rfl
 | c :: r, n, h => by
   have hc := h c (by simp)
   rw [dg_eq, Bool.and_eq_true, decide_eq_true_eq, decide_eq_true_eq] at hc
   rw [Lib.decFrom, Lib.digitVal, if_pos hc]
   simp only []
   rw [decFrom_digits r _ (fun x hx => h x (List.mem_cons_of_mem _ hx))]
   rfl
theorem atoi_digits {l : List UInt8} (hne : l ≠ []) (h : ∀ c ∈ l, dg c = true) : Lib.atoi l = some (num l : Int) := by
 match l, hne with
 | c :: r, _ =>
   have hc := h c (by simp)
   rw [dg_eq, Bool.and_eq_true, decide_eq_true_eq, decide_eq_true_eq] at hc
   have h1 : (c == 45) = false := by
    rw [beq_eq_false_iff_ne]; intro e; rw [e] at hc; exact absurd hc.1 (by decide)
   have h2 : (c == 43) = false := by
    rw [beq_eq_false_iff_ne]; intro e; rw [e] at hc; exact absurd hc.1 (by decide)
   simp only [Lib.atoi, h1, h2, Bool.false_eq_true, if_false]
   unfold Lib.decNat
   rw [decFrom_digits _ _ h]
   rfl
theorem trimPrefix_drop {s p : List UInt8} (h : Lib.hasPrefix s p = true) : Lib.trimPrefix s p = s.drop p.length := by
 unfold Lib.trimPrefix; rw [if_pos h]
set_option maxRecDepth 10000 in
set_option maxHeartbeats 4000000 in
theorem pentity_any (s : ByteArray) (w : World) (hs : s.size ≤ 100000000) : Calls Tryz.prog 129 #[.string s] w fun e w' => e = .returned (entV (ent s.data.toList)) ∧ Below w.heap.size w w' := by
 have hz : s.data.toList.length = s.size := by simp
 obtain ⟨l, hl⟩ : ∃ l, l = s.data.toList := ⟨_, rfl⟩
 have hHP := fun (t : List UInt8) W => Tryz.strings_HasPrefix s ⟨t.toArray⟩ W
 simp only [← hl] at hHP
 have hCP := fun W => Tryz.strings_CutPrefix s ⟨#[38, 35]⟩ W
 have e1 : (⟨#[38, 35]⟩ : ByteArray).data.toList = [38, 35] := rfl
 rw [e1, ← hl] at hCP
 rw [← hl] at hz ⊢
 have hK := Known.made w 9 #[.string ⟨#[38, 108, 116, 59]⟩, .string ⟨#[38, 103, 116, 59]⟩, .string ⟨#[38, 97, 109, 112, 59]⟩, .string ⟨#[38, 113, 117, 111, 116, 59]⟩]
 have hb0 := below_new0 w (.cells #[.string ⟨#[38, 108, 116, 59]⟩, .string ⟨#[38, 103, 116, 59]⟩, .string ⟨#[38, 97, 109, 112, 59]⟩, .string ⟨#[38, 113, 117, 111, 116, 59]⟩] 9)
 obtain ⟨c0, c1, c2, c3⟩ := hK.four
 have kl := hK.lt
 have hlp := fun W => hHP eLt W
 have hgp := fun W => hHP eGt W
 have hap := fun W => hHP eAmp W
 have hqp := fun W => hHP eQuot W
 have h1 := ent_first l
 have h2 := ent_second l
 have h3 := ent_third l
 have h4 := ent_fourth l
 have h5 := ent_rest l
 generalize hb1 : Lib.hasPrefix l eLt = b1 at hlp h1 h2 h3 h4 h5
 generalize hb2 : Lib.hasPrefix l eGt = b2 at hgp h2 h3 h4 h5
 generalize hb3 : Lib.hasPrefix l eAmp = b3 at hap h3 h4 h5
 generalize hb4 : Lib.hasPrefix l eQuot = b4 at hqp h4 h5
 obtain ⟨b5, hb5⟩ : ∃ b5, b5 = Lib.hasPrefix l [38, 35] := ⟨_, rfl⟩
 rw [← hb5] at hCP h5
 obtain ⟨R, hR⟩ : ∃ R : ByteArray, R = ⟨(Lib.trimPrefix l [38, 35]).toArray⟩ := ⟨_, rfl⟩
 rw [← hR] at hCP
 have hRd : b5 = true → R.data.toList = l.drop 2 := fun h => by
  rw [hR]
  show Lib.trimPrefix l [38, 35] = _
  rw [trimPrefix_drop (hb5.symm.trans h)]; rfl
 have hRl : R.size ≤ s.size := by
  have h6 : R.data.toList.length = R.size := by simp
  rw [← h6, hR]
  show (Lib.trimPrefix l [38, 35]).length ≤ s.size
  unfold Lib.trimPrefix
  split
  ·rw [List.length_drop]; omega
  ·omega
 have HP1 := Lib.hid hlp
 have HP2 := Lib.hid hgp
 have HP3 := Lib.hid hap
 have HP4 := Lib.hid hqp
 have HCP := Lib.hid hCP
 have H1 := Lib.hid h1
 have H2 := Lib.hid h2
 have H3 := Lib.hid h3
 have H4 := Lib.hid h4
 have H5 := Lib.hid h5
 have HB0 := Lib.hid hb0
 have HRD := Lib.hid hRd
 have HL := Lib.hid hl
 clear hHP hlp hgp hap hqp hCP h1 h2 h3 h4 h5 hb0 hb1 hb2 hb3 hb4 hb5 e1 hK hl hR hRd
 go_enter Tryz.func129, Tryz.ntmps129
 go_wp2_with fail
 obtain ⟨W0, hW0⟩ : ∃ W0, W0 = w.alloc (.cells #[.string ⟨#[38, 108, 116, 59]⟩, .string ⟨#[38, 103, 116, 59]⟩, .string ⟨#[38, 97, 109, 112, 59]⟩, .string ⟨#[38, 113, 117, 111, 116, 59]⟩] 9) := ⟨_, rfl⟩
 rw [← hW0] at HB0 c0 c1 c2 c3 kl ⊢
 clear hW0
 go_loopg [4, 5, 13] 5 (fun g s4 s5 s13 wr => ∃ k : Nat, k ≤ 4 ∧ 4 < k + g ∧ s13 = .int .i64 k ∧ (1 ≤ k → b1 = false) ∧ (2 ≤ k → b2 = false) ∧ (3 ≤ k → b3 = false) ∧ (4 ≤ k → b4 = false) ∧ W0 = wr)
 case atStart => exact ⟨0, by omega, by omega, rfl, by omega, by omega, by omega, by omega, rfl⟩
 case round =>
  obtain ⟨k, hk4, hkg, rfl, f1, f2, f3, f4, rfl⟩ := hrel
  have hc : k = 0 ∨ k = 1 ∨ k = 2 ∨ k = 3 ∨ k = 4 := by omega
  rcases hc with rfl | rfl | rfl | rfl | rfl
  ·have F1 := Lib.hid f1
   have F2 := Lib.hid f2
   have F3 := Lib.hid f3
   have F4 := Lib.hid f4
   clear f1 f2 f3 f4
   go_wp2_with fail
   refine (HP1.out _).mono ?_
   rintro e w1 ⟨rfl, rfl⟩
   cases b1 with
   | true =>
     have HE := Lib.hid (H1.out  rfl)
     go_wp2_with fail
     go_ret2
     exact ⟨by rw [HE.out]; rfl, HB0.out⟩
   | false =>
     go_wp2_with fail
     go_roundg 4
     case measure => omega
     case rel => exact ⟨1, by omega, by omega, rfl, fun _ => (by first | rfl | trivial), by omega, by omega, by omega, rfl⟩
  ·have F1 := Lib.hid f1
   have F2 := Lib.hid f2
   have F3 := Lib.hid f3
   have F4 := Lib.hid f4
   clear f1 f2 f3 f4
   go_wp2_with fail
   refine (HP2.out _).mono ?_
   rintro e w1 ⟨rfl, rfl⟩
   cases b2 with
   | true =>
     have HE := Lib.hid (H2.out (F1.out (by decide)) rfl)
     go_wp2_with fail
     go_ret2
     exact ⟨by rw [HE.out]; rfl, HB0.out⟩
   | false =>
     go_wp2_with fail
     go_roundg 3
     case measure => omega
     case rel => exact ⟨2, by omega, by omega, rfl, fun _ => F1.out (by decide), fun _ => (by first | rfl | trivial), by omega, by omega, rfl⟩
  ·have F1 := Lib.hid f1
   have F2 := Lib.hid f2
   have F3 := Lib.hid f3
   have F4 := Lib.hid f4
   clear f1 f2 f3 f4
   go_wp2_with fail
   refine (HP3.out _).mono ?_
   rintro e w1 ⟨rfl, rfl⟩
   cases b3 with
   | true =>
     have HE := Lib.hid (H3.out (F1.out (by decide)) (F2.out (by decide)) rfl)
     go_wp2_with fail
     go_ret2
     exact ⟨by rw [HE.out]; rfl, HB0.out⟩
   | false =>
     go_wp2_with fail
     go_roundg 2
     case measure => omega
     case rel => exact ⟨3, by omega, by omega, rfl, fun _ => F1.out (by decide), fun _ => F2.out (by decide), fun _ => (by first | rfl | trivial), by omega, rfl⟩
  ·have F1 := Lib.hid f1
   have F2 := Lib.hid f2
   have F3 := Lib.hid f3
   have F4 := Lib.hid f4
   clear f1 f2 f3 f4
   go_wp2_with fail
   refine (HP4.out _).mono ?_
   rintro e w1 ⟨rfl, rfl⟩
   cases b4 with
   | true =>
     have HE := Lib.hid (H4.out (F1.out (by decide)) (F2.out (by decide)) (F3.out (by decide)) rfl)
     go_wp2_with fail
     go_ret2
     exact ⟨by rw [HE.out]; rfl, HB0.out⟩
   | false =>
     go_wp2_with fail
     go_roundg 1
     case measure => omega
     case rel => exact ⟨4, by omega, by omega, rfl, fun _ => F1.out (by decide), fun _ => F2.out (by decide), fun _ => F3.out (by decide), fun _ => (by first | rfl | trivial), rfl⟩
  ·have hen := H5.out (f1 (by decide)) (f2 (by decide)) (f3 (by decide)) (f4 (by decide))
   have HEN := Lib.hid hen
   clear hen f1 f2 f3 f4 H1 H2 H3 H4 H5 HP1 HP2 HP3 HP4 c0 c1 c2 c3
   have hRun := prun_any 151 dg R W0 enters_digit pdigit_any (by omega)
   obtain ⟨q, hq⟩ : ∃ q, q = (R.data.toList.takeWhile dg).length := ⟨_, rfl⟩
   rw [← hq] at hRun
   have hzR : R.data.toList.length = R.size := by simp
   have hqR : q ≤ R.size := by rw [hq, ← hzR]; exact tw_le _ _
   have HRUN := Lib.hid hRun
   have HQ := Lib.hid hq
   clear hRun hq hzR
   go_wp2_with fail
   refine (HCP.out _).mono ?_
   rintro e w1 ⟨rfl, rfl⟩
   go_wp2_with fail
   refine HRUN.out.mono ?_
   rintro e w1 ⟨rfl, rfl⟩
   cases b5 with
   | false =>
     have HE : Hid (ent l = none) := Lib.hid (by rw [HEN.out]; rfl)
     go_wp2_with fail
     go_ret2
     exact ⟨by rw [HE.out]; rfl, HB0.out⟩
   | true =>
     have hRd := HRD.out (by first | rfl | trivial)
     obtain ⟨r, hr⟩ : ∃ r, r = l.drop 2 := ⟨_, rfl⟩
     rw [← hr] at hRd
     have hq := HQ.out
     rw [hRd] at hq
     have hzr : r.length = R.size := by rw [← hRd]; simp
     have hen : ent l = entN r := by rw [HEN.out, hr]; rfl
     have hentN : entN r = if 1 ≤ q ∧ q ≤ 3 ∧ r[q]? = some 59 ∧ 1 ≤ num (r.take q) ∧ num (r.take q) ≤ 255 then some (UInt8.ofNat (num (r.take q)), q + 3) else none := by
      unfold entN
      rw [hq, take_tw']
     have h59 : ∀ h : q < R.size, (r[q]? = some 59 ↔ R[q].toNat = 59) := fun h => by
      obtain ⟨h2, hbr⟩ := byte_at R q h
      have h3 : q < r.length := by rw [hzr]; exact h
      have a1 : R[q] = 59 ↔ R[q].toNat = 59 := u8_eq (by decide)
      rw [← a1, List.getElem?_eq_getElem h3, hbr]
      simp only [hRd, Option.some.injEq]
     have hend : q = R.size → r[q]? ≠ some 59 := fun h e => by
      rw [List.getElem?_eq_none (by omega)] at e; cases e
     have hall : ∀ c ∈ r.take q, dg c = true := by rw [hq, take_tw']; exact tw_all r
     have hex : (R.extract 0 q).data.toList = r.take q := by rw [Lib.extract_from_zero, hRd]
     have HEV := Lib.hid (hen.trans hentN)
     have H59 := Lib.hid h59
     have HEND := Lib.hid hend
     have HALL := Lib.hid hall
     have HEX := Lib.hid hex
     clear hRd hr hq hzr hen hentN h59 hend hall hex HEN HCP HRD HQ HL
     by_cases k1 : q < 1
     ·have g1 : decide (q < 1) = true := decide_eq_true k1
      have g1' : decide ((q : Int) < 1) = true := decide_eq_true (by omega)
      have HNONE : Hid (ent l = none) := Lib.hid (by rw [HEV.out, if_neg (by omega)])
      clear k1
      go_wp2_with fail
      go_ret2
      exact ⟨by rw [HNONE.out]; rfl, HB0.out⟩
     have g1 : decide (q < 1) = false := decide_eq_false k1
     have g1' : decide ((q : Int) < 1) = false := decide_eq_false (by omega)
     by_cases k2 : 3 < q
     ·have g2 : decide (3 < q) = true := decide_eq_true k2
      have g2' : decide ((3 : Int) < (q : Int)) = true := decide_eq_true (by omega)
      have HNONE : Hid (ent l = none) := Lib.hid (by rw [HEV.out, if_neg (by omega)])
      clear k1 k2
      go_wp2_with fail
      go_ret2
      exact ⟨by rw [HNONE.out]; rfl, HB0.out⟩
     have g2 : decide (3 < q) = false := decide_eq_false k2
     have g2' : decide ((3 : Int) < (q : Int)) = false := decide_eq_false (by omega)
     by_cases k3 : q = R.size
     ·have g3 : ((q : Int) == (R.size : Int)) = true := by simp; omega
      have HNONE : Hid (ent l = none) := Lib.hid (by rw [HEV.out, if_neg (fun h => HEND.out k3 h.2.2.1)])
      have K3 := Lib.hid k3
      clear k1 k2 k3
      go_wp2_with fail
      go_ret2
      exact ⟨by rw [HNONE.out]; rfl, HB0.out⟩
     have g3 : ((q : Int) == (R.size : Int)) = false := by simp; omega
     have hqR2 : q < R.size := by omega
     have h5 := H59.out hqR2
     obtain ⟨x, hx⟩ : ∃ x, R[q].toNat = x := ⟨_, rfl⟩
     rw [hx] at h5
     have H5 := Lib.hid h5
     clear h5
     by_cases k4 : x = 59
     ·have g4 : ((x : Int) != 59) = false := by simp; omega
      have h59 := H5.out.2 k4
      obtain ⟨X, hX⟩ : ∃ X, X = R.extract 0 q := ⟨_, rfl⟩
      have hXd := HEX.out
      rw [← hX] at hXd
      have hXz : X.size = q := by rw [hX, ByteArray.size_extract]; omega
      have hne : r.take q ≠ [] := fun e => by
       have : X.data.toList.length = X.size := by simp
       rw [hXd, e] at this; simp at this; omega
      have hat := fun W => Tryz.strconv_Atoi X (num (r.take q) : Int) (by omega) (by rw [hXd]; exact atoi_digits hne HALL.out) W
      obtain ⟨Nn, hNn⟩ : ∃ Nn, Nn = num (r.take q) := ⟨_, rfl⟩
      have hev := HEV.out
      rw [← hNn] at hat hev
      have HAT := Lib.hid hat
      have HEV2 := Lib.hid hev
      have HX := Lib.hid hX
      have H9 := Lib.hid h59
      have j1 : (q : Int) ≤ (R.size : Int) := by omega
      clear hat hev hX hNn hne hXd h59 HEV H5 k4 H59 HEND HEX HALL
      go_wp2_with fail
      rw [← HX.out]
      refine (HAT.out _).mono ?_
      rintro e w2 ⟨rfl, tt, hw2⟩
      have HB2 : Hid (Below w.heap.size w w2) := Lib.hid (by
       rw [hw2]
       exact HB0.out.trans ((Lib.bytesWorld_below _ _ _).mono (by have := HB0.out.size; omega)))
      clear hw2
      by_cases m1 : Nn < 1
      ·have g5 : decide (Nn < 1) = true := decide_eq_true m1
       have g5' : decide ((Nn : Int) < 1) = true := decide_eq_true (by omega)
       have HNONE : Hid (ent l = none) := Lib.hid (by rw [HEV2.out, if_neg (by omega)])
       clear m1
       go_wp2_with fail
       go_ret2
       exact ⟨by rw [HNONE.out]; rfl, HB2.out⟩
      ·have g5 : decide (Nn < 1) = false := decide_eq_false m1
       have g5' : decide ((Nn : Int) < 1) = false := decide_eq_false (by omega)
       by_cases m2 : 255 < Nn
       ·have g6 : decide (255 < Nn) = true := decide_eq_true m2
        have g6' : decide ((255 : Int) < (Nn : Int)) = true := decide_eq_true (by omega)
        have HNONE : Hid (ent l = none) := Lib.hid (by rw [HEV2.out, if_neg (by omega)])
        clear m1 m2
        go_wp2_with fail
        go_ret2
        exact ⟨by rw [HNONE.out]; rfl, HB2.out⟩
       ·have g6 : decide (255 < Nn) = false := decide_eq_false m2
        have g6' : decide ((255 : Int) < (Nn : Int)) = false := decide_eq_false (by omega)
        have HSOME : Hid (ent l = some (UInt8.ofNat Nn, q + 3)) := Lib.hid (by rw [HEV2.out, if_pos ⟨by omega, by omega, H9.out, by omega, by omega⟩])
        have hwr : IntKind.u8.wrap (Nn : Int) = (Nn : Int) := u8_wrap Nn (by omega)
        have hof : ((UInt8.ofNat Nn).toNat : Int) = (Nn : Int) := by
         rw [UInt8.toNat_ofNat_of_lt' (by show Nn < 256; omega)]
        have HOF := Lib.hid hof
        clear hof m1 m2
        go_wp2_with fail
        go_ret2
        refine ⟨?_, HB2.out⟩
        rw [HSOME.out]
        show Ending.returned (Value.tuple #[.int .u8 (Nn : Int), .int .i64 ((q : Int) + 3)]) = Ending.returned (Value.tuple #[.int .u8 ((UInt8.ofNat Nn).toNat : Int), .int .i64 ((q + 3 : Nat) : Int)])
        rw [HOF.out, show (q : Int) + 3 = ((q + 3 : Nat) : Int) by omega]
     ·have g4 : ((x : Int) != 59) = true := by simp; omega
      have HNONE : Hid (ent l = none) := Lib.hid (by rw [HEV.out, if_neg (fun h => k4 (H5.out.1 h.2.2.1))])
      clear k1 k2 k3 k4
      go_wp2_with fail
      go_ret2
      exact ⟨by rw [HNONE.out]; rfl, HB0.out⟩
end Go.Proofs.YthieinfonomeeaaGreatDoor
