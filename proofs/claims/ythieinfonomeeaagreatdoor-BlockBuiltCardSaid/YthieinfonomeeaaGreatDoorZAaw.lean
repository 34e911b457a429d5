/-
  The claim's own texts, packed. Conditions: those typed in each theorem.
-/
import Derived.Test.YthieinfonomeeaaGreatDoorZAav
namespace Go.Proofs.YthieinfonomeeaaGreatDoor
open Go.RowKit Doc Tit Inl
set_option linter.unusedVariables false
attribute [local go_sem ↓] Go.wp_at_zero Go.wp_at_succ
theorem pp_start (w W : World) (hk : Known W w.heap.size 125 #[.int .i64 0, .slice none 0 0]) (hg : Known W (w.heap.size + 1) 123 #[.slice (some ⟨w.heap.size, 0, none⟩) 1 1, .slice none 0 0]) : PP w.heap.size (w.heap.size + 1) W Inl.start (fun _ => False) := by
 have hnone : ∀ k, (Value.slice none 0 0).ownBlock ≠ some k := fun k e => by cases e
 have hsome : ∀ k, (Value.slice (some ⟨w.heap.size, 0, none⟩) 1 1).ownBlock = some k → k = w.heap.size := fun k e => (Option.some.inj e).symm
 refine ⟨⟨[(0, Ins.nil, .slice none 0 0)], .slice (some ⟨w.heap.size, 0, none⟩) 1 1, .slice none 0 0, ?_, rfl⟩, ok_start, by decide⟩
 exact
  {le := Nat.le_succ _
   kn := hg
   rows := ⟨rfl, .inr ⟨w.heap.size, 1, #[.int .i64 0, .slice none 0 0], rfl, Nat.le_refl _, hk, Nat.le_refl _, by decide, rfl, rfl⟩⟩
   txt := BOwn.nil _ _
   kids := fun t ht => by
    rw [List.mem_singleton.1 ht]
    exact ⟨[], World.ownsRow_nil _ _ _ _, rfl⟩
   dead := fun k hk => hk.elim
   db := fun k hk => hk.elim
   og := fun e => by have := hsome _ e; omega
   tg := hnone _
   kg := fun t ht => by rw [List.mem_singleton.1 ht]; exact hnone _
   ot := fun k _ => hnone k
   ok := fun k _ t ht => by rw [List.mem_singleton.1 ht]; exact hnone _
   tk := fun k _ t ht => by rw [List.mem_singleton.1 ht]; exact hnone _
   kk := List.pairwise_singleton _ _ }
theorem make_el (w : World) : (Instr.makeSlice 121 (.int .i64 1) (.int .i64 1)).run Tryz.prog w = .ok (.slice (some ⟨w.heap.size, 0, none⟩) 1 1) (w.alloc (.cells #[.int .i64 0, .slice none 0 0] 125)) := by
 obtain ⟨i, hi, hz, hsize, hby⟩ := info_parts infoE
 have h := run_makeSlice (P := Tryz.prog) w 121 125 i _ Tryz.underlying121 hi hz .i64 .i64 1 1 (by decide) (by decide) (by rw [hsize]; decide) (by rw [hby]; decide) (by decide)
 rw [hsize] at h
 have e : madeCells (Value.agg #[.int .i64 0, .slice none 0 0]).cells (Int.toNat 1 * 2) = #[.int .i64 0, .slice none 0 0] := by first | kernel_rfl | (simp [madeCells]; rfl)
 rw [e] at h
 exact h
theorem ev_elem1 {P : List UInt8 → Ins} {c : UInt8} {r : List UInt8} {x : Ins} {n : Nat} (h : ev P c r = .elem x n) : x.len ≤ 1 := by
 unfold ev at h
 split at h
 ·cases hv : linkE P (c :: r) with
  | none => rw [hv] at h; cases h
  | some y =>
    obtain ⟨y, m⟩ := y
    cases y with
    | none => rw [hv] at h; cases h
    | some y =>
      rw [hv] at h
      injection h with h1 h2
      subst h1
      exact Nat.le_of_eq (link_len1 hv)
 ·split at h
  ·split at h
   ·injection h with h1 h2
    subst h1
    exact Nat.le_refl _
   ·cases hv : noteE P (c :: r) with
    | none => rw [hv] at h; cases h
    | some y =>
      obtain ⟨y, m⟩ := y
      rw [hv] at h
      injection h with h1 h2
      subst h1
      exact Nat.le_of_eq (note_len1 hv)
  ·split at h
   ·cases hv : ent (c :: r) with
    | none => rw [hv] at h; cases h
    | some y => rw [hv] at h; cases h
   ·split at h
    ·unfold ofQuotes at h
     split at h
     ·cases h
     ·cases h
    ·cases h
set_option maxRecDepth 20000 in
set_option maxHeartbeats 8000000 in
theorem pparse_step (N : Nat) (ih : PParse N) (t : ByteArray) (w : World) (hN : t.size ≤ N) (hs : t.size ≤ 100000000) (hmx : MX w) : Calls Tryz.prog 63 #[.string t] w fun e w' =>
  ∃ p c, e = .returned (.slice p (read t.data.toList).len c) ∧ insS.sl (fun k => w.heap.size ≤ k) w' (.slice p (read t.data.toList).len c) (read t.data.toList) ∧ Below w.heap.size w w' := by
 have hz : t.data.toList.length = t.size := by simp
 have hdb := drop_byte t
 obtain ⟨l, hl⟩ : ∃ l, l = t.data.toList := ⟨_, rfl⟩
 rw [← hl] at hdb hz ⊢
 have hrd := read_goes l
 have hST := fun B g W s D (u : ByteArray) (hu : u.size ≤ t.size) hP hm => pstep_any N ih B g W s D u hP hm (by omega) (by omega)
 obtain ⟨mv, hmv⟩ := hmx
 have hML : 0 < w.heap.size := World.block_lt_of_cell? w ⟨0, 0, none⟩ hmv
 have HDB := Lib.hid hdb
 have HZ := Lib.hid hz
 have HRD := Lib.hid hrd
 have HST := Lib.hid hST
 have HMV := Lib.hid hmv
 have HL := Lib.hid hl
 clear hdb hz hrd hST hmv hl ih
 have hmk := make_el w
 have hk := (Known.made w 125 #[.int .i64 0, .slice none 0 0]).alloc (.cells #[.slice (some ⟨w.heap.size, 0, none⟩) 1 1, .slice none 0 0] 123)
 have hg := Known.made (w.alloc (.cells #[.int .i64 0, .slice none 0 0] 125)) 123 #[.slice (some ⟨w.heap.size, 0, none⟩) 1 1, .slice none 0 0]
 rw [World.size_alloc] at hg
 have HB0 := Lib.hid (below_then (below_new0 w (.cells #[.int .i64 0, .slice none 0 0] 125)) (below_new0 _ (.cells #[.slice (some ⟨w.heap.size, 0, none⟩) 1 1, .slice none 0 0] 123)))
 have HPS := Lib.hid (pp_start w _ hk hg)
 clear hk hg
 go_enter Tryz.func63, Tryz.ntmps63
 go_wp2_with fail
 go_loopg [4, 5] (t.size + 1) (fun gg s4 s5 wr => ∃ (i : Nat) (st : S) (D : Nat → Prop), i ≤ t.size ∧ t.size < i + gg ∧ s4 = .int .i64 i ∧ PP w.heap.size (w.heap.size + 1) wr st D ∧ st.m ≤ i ∧ goes Inl.start l = goes st (l.drop i) ∧ Below w.heap.size w wr)
 case atStart => exact ⟨0, Inl.start, _, by omega, by omega, rfl, HPS.out, by decide, rfl, HB0.out⟩
 case round =>
  obtain ⟨i, st, D, hi, hgg, rfl, hR, hm, hgo, hb⟩ := hrel
  obtain ⟨wo, hwo⟩ : ∃ wo, wo = wr := ⟨_, rfl⟩
  subst hwo
  have HR := Lib.hid hR
  have HB := Lib.hid hb
  have hgl := hR.lt
  clear hR hb
  by_cases hin : i < t.size
  ·have g1 : decide (i < t.size) = true := decide_eq_true hin
   have hdi := HDB.out i hin
   obtain ⟨c, hc⟩ : ∃ c, c = t[i] := ⟨_, rfl⟩
   obtain ⟨r, hr⟩ : ∃ r, r = l.drop (i + 1) := ⟨_, rfl⟩
   rw [← hc, ← hr] at hdi
   obtain ⟨E, hE⟩ : ∃ E, E = ev read c r := ⟨_, rfl⟩
   have hstep : goes Inl.start l = goes (E.app st) (l.drop (i + E.len)) ∧ 1 ≤ E.len ∧ i + E.len ≤ t.size ∧ (E.app st).m ≤ i + E.len := by
    have hel := ev_len read c r
    rw [← hE] at hel
    have hcl : (c :: r).length = t.size - i := by rw [← hdi, List.length_drop, HZ.out]
    rw [hcl] at hel
    refine ⟨?_, hel.1, by omega, Nat.le_trans (m_app st E (fun x n h => ev_elem1 (hE.symm.trans h)) hel.1) (by omega)⟩
    rw [hgo, hdi, goes_cons, ← hE, ← hdi, List.drop_drop]
   obtain ⟨U, hU⟩ : ∃ U, U = t.extract i t.size := ⟨_, rfl⟩
   have hUd : U.data.toList = c :: r := by rw [hU, Lib.extract_to_end, ← HL.out, hdi]
   have hUz : U.size ≤ t.size := by rw [hU, ByteArray.size_extract]; omega
   have hUz2 : U.size ≤ t.size - i := by rw [hU, ByteArray.size_extract]; omega
   have hMVo := (HB.out.cell (p := ⟨0, 0, none⟩) hML).trans HMV.out
   have hC := HST.out _ _ _ st D U hUz HR.out ⟨mv, hMVo⟩ (by omega) c r hUd
   rw [← hE] at hC
   have hbw := HB.out.size
   have HSTEP := Lib.hid hstep
   have HC := Lib.hid hc
   have HU := Lib.hid hU
   have HCA := Lib.hid hC
   have hii : (i : Int) ≤ (t.size : Int) := by omega
   clear hstep hc hr hU hUd hUz hUz2 hMVo hC hgo hE hdi HST HMV HDB
   go_wp2_with fail
   rw [← HU.out]
   refine HCA.out.mono ?_
   rintro e w1 hps
   rcases hps with ⟨rfl, rfl, D1, hk1, hp1, hb1⟩ | ⟨rfl, D1, hk1, hp1, hb1⟩
   ·obtain ⟨hgo, hl1, hls, hme⟩ := HSTEP.out
    have hl1 : 1 ≤ 1 := hl1
    have hls : i + 1 ≤ t.size := hls
    have hz1 := hb1.size
    obtain ⟨T, ov, tv, hT, hTL⟩ := hp1.rd
    obtain ⟨tq0, tc0, rfl⟩ := hT.txt.form
    obtain ⟨d0, d1⟩ := hT.kn.two
    have f1 := hT.kn.free 1
    have hgl1 := hT.lt
    have hcs := HC.out
    have hbw1 : w.heap.size ≤ w1.heap.size := by omega
    have hpl : st.pend.length ≤ 1000000000 := by unfold S.m at hm; omega
    have hpm : tot st.stk + (st.pend ++ [c]).length ≤ 1000000000 := by
     unfold S.m at hm
     rw [List.length_append]
     simp only [List.length_cons, List.length_nil]
     omega
    have HT := Lib.hid hT
    have HTL := Lib.hid hTL
    have HOA := Lib.hid ((hT.txt.below (below_new0 w1 (.cells #[.int .u8 (c.toNat : Int)] 5))).below (Below.refl _ _).drew)
    have HSB := Lib.hid (show Src (w1.alloc (.cells #[.int .u8 (c.toNat : Int)] 5)).drew _ [c].length (bys [c]) from src_byte w1 5 c)
    have HK1 := Lib.hid hk1
    have HP1 := Lib.hid hp1
    have HB1 := Lib.hid hb1
    have HBX := Lib.hid (HB.out.trans hb1)
    have HGO := Lib.hid hgo
    have HME := Lib.hid hme
    rw [hcs] at HOA HSB
    clear hgo hme hk1 hp1 hb1 hT hTL
    go_wp2_with fail
    go_region_law (first
     | (refine step_append_bytes _ (by rfl) _ _ (by rfl) HOA.out (by rfl) HSB.out (by rfl) (by simp; omega) (by simp; omega) ?_; intro v4 w4 hown4 hgr4 hat4
        rw [← hcs] at hown4
        obtain ⟨tq, tc, rfl, hkn4, hgl4, htu⟩ := text_grown (V := (w1.alloc (.cells #[.int .u8 (t[i].toNat : Int)] 5)).drew) HT.out (by simp) (fun j hj => Below.heap_alloc w1 _ j hj) ((Below.refl _ w1).alloc hbw1 _).drew hown4 hgr4 (fun k hk => by
         rcases hat4 with h | h
         ·exact .inl (by rw [← h]; exact hk)
         ·rw [h] at hk
          exact .inr (by have hk := Option.some.inj hk; rw [World.size_drew, World.size_alloc] at hk; omega))
        obtain ⟨N4, hN4⟩ : ∃ N4, N4 = (st.pend ++ [c]).length := ⟨_, rfl⟩
        rw [← hN4] at htu ⊢
        clear hN4
        obtain ⟨d0, d1⟩ := hkn4.two
        have f1 := hkn4.free 1
        have HTU := Lib.hid htu
        clear hkn4 htu hown4 hgr4 hat4))
    all_goals
     have hpt := PP.text HP1.out HTL.out HTU.out hpm
     obtain ⟨D4, hk4, hp4, hb4⟩ := hpt
     have HP4 := Lib.hid hp4
     have HB4 := Lib.hid (HBX.out.trans hb4)
     clear hk4 hp4 hb4 HTU HT HTL hcs
     go_wp2_with fail
     go_roundg (t.size - i)
     case measure => omega
     case rel => exact ⟨i + 1, _, _, hls, by omega, by go_num, HP4.out, HME.out, HGO.out, HB4.out⟩
   ·obtain ⟨hgo, hl1, hls, hme⟩ := HSTEP.out
    have HP1 := Lib.hid hp1
    have HBX := Lib.hid (HB.out.trans hb1)
    have HGO := Lib.hid hgo
    have HME := Lib.hid hme
    obtain ⟨n, hn⟩ : ∃ n, n = E.len := ⟨_, rfl⟩
    rw [← hn] at hl1 hls ⊢
    have g2 : ((n : Int) == 0) = false := by simp; omega
    have HN := Lib.hid hn
    clear hgo hme hk1 hp1 hb1 hn
    go_wp2_with fail
    go_roundg (t.size - i)
    case measure => omega
    case rel => exact ⟨i + n, _, _, hls, by omega, by go_num, HP1.out, by rw [HN.out]; exact HME.out, by rw [HN.out]; exact HGO.out, HBX.out⟩
  ·have g1 : decide (i < t.size) = false := decide_eq_false hin
   have hgo2 : goes Inl.start l = st := by rw [hgo, List.drop_eq_nil_of_le (by rw [HZ.out]; omega), goes_nil]
   have hrd : read l = st.fin := by rw [HRD.out, hgo2]
   obtain ⟨fs, hfs⟩ : ∃ fs, fs = flush st.stk st.pend := ⟨_, rfl⟩
   have hok : Ok fs := by rw [hfs]; exact HR.out.ok.flush _
   have hlen := ok_len hok
   have hfl : fs.length = st.stk.length := by rw [hfs, flush_len]
   have hfin : ∀ k l' r', endN (fs.length - 1) fs = (k, l') :: r' → read l = l' := fun k l' r' h => by
    rw [hrd]; exact fin_eq (by rw [← hfs, ← hfl]; exact h)
   have htot : tot fs ≤ 1000000000 := by
    have h1 := tot_flush st.stk st.pend
    have h2 := HR.out.m
    rw [← hfs] at h1
    unfold S.m at h2; omega
   have htot2 : tot st.stk + st.pend.length ≤ 1000000000 := by
    have h2 := HR.out.m
    unfold S.m at h2; omega
   have hprd := HR.out.rd
   have HFIN := Lib.hid hfin
   have HFS := Lib.hid hfs
   have HTOT := Lib.hid htot
   have HTOT2 := Lib.hid htot2
   have HPRD := Lib.hid hprd
   obtain ⟨L, hL⟩ : ∃ L, L = fs.length := ⟨_, rfl⟩
   rw [← hL] at hlen hfin hfl
   have HL := Lib.hid hL
   have HFL := Lib.hid hfl
   have HBB := HB
   clear hgo hgo2 hrd hfs hok hfl hfin htot htot2 hprd hL HR HST HDB HRD
   go_wp2_with fail
   go_loopg [] (L + 1) (fun gg wr => ∃ (j : Nat) (X : Stk) (p : List UInt8) (D : Nat → Prop), j < L ∧ L ≤ j + gg ∧ PRD w.heap.size (w.heap.size + 1) wr X.reverse p D ∧ X.length = L - j ∧ flush X p = endN j fs ∧ tot X + p.length ≤ 1000000000 ∧ Below w.heap.size w wr)
   case atStart => exact ⟨0, st.stk, st.pend, _, by omega, by omega, HPRD.out, by rw [← HFL.out]; rfl, by rw [← HFS.out]; rfl, HTOT2.out, HBB.out⟩
   case round =>
    obtain ⟨j, X, p, D2, hj, hjg, hprd, hXl, hXe, hXt, hb⟩ := hrel
    obtain ⟨T, ov, tv, hT, hTL⟩ := hprd
    have hTl : T.length = L - j := by rw [← hXl, ← ops_len, hTL, List.length_reverse]
    obtain ⟨oq, oc, rfl⟩ := own_form hT.rows
    obtain ⟨x, hx⟩ : ∃ x, x = L - j := ⟨_, rfl⟩
    have hkn := hT.kn
    rw [hTl, ← hx] at hkn
    obtain ⟨d0, d1⟩ := hkn.two
    have hdl := hT.lt
    have HT := Lib.hid hT
    have HTL := Lib.hid hTL
    have HXL := Lib.hid hXl
    have HXE := Lib.hid hXe
    have HB9 := Lib.hid hb
    have HX := Lib.hid hx
    clear hkn hT hTL hXl hXe hb hTl
    by_cases hj1 : j + 1 < L
    ·have g2 : decide (1 < x) = true := decide_eq_true (by omega)
     have g2' : decide ((1 : Int) < (x : Int)) = true := decide_eq_true (by omega)
     have hC := pend_p w.heap.size (w.heap.size + 1) wr X p D2 ⟨T, _, _, HT.out, HTL.out⟩ (by rw [HXL.out]; omega) (by rw [HXL.out]; omega) hXt
     rw [HXE.out, ← endN_snoc] at hC
     have HC := Lib.hid hC
     clear hC hx
     go_wp2_with fail
     refine HC.out.mono ?_
     rintro e w3 ⟨rfl, D3, hk3, hp3, hb3⟩
     have HP3 := Lib.hid hp3
     have HB3 := Lib.hid (HB9.out.trans hb3)
     clear hk3 hp3 hb3
     go_wp2_with fail
     go_roundg (L - j - 1)
     case measure => omega
     case rel => exact ⟨j + 1, endN (j + 1) fs, [], D3, by omega, by omega, HP3.out, by rw [endN_length _ _ (by rw [← HL.out]; omega), HL.out], rfl, by simpa using Nat.le_trans (tot_endN (j + 1) fs) HTOT.out, HB3.out⟩
    ·have hx1 : x = 1 := by omega
     have hx2 := HX.out
     have hX1 : X.length = 1 := by rw [HXL.out]; omega
     obtain ⟨y, hy⟩ : ∃ y, X = [y] := List.length_eq_one_iff.1 hX1
     obtain ⟨k0, l0⟩ := y
     subst hy
     have hrl0 : read l = fl l0 p := HFIN.out k0 (fl l0 p) [] (by
      have h1 := HXE.out
      rw [flush_fl] at h1
      rw [← HL.out, show L - 1 = j by omega, ← h1])
     have hC := pflush_any w.heap.size (w.heap.size + 1) wr [] k0 l0 p D2 ⟨T, _, _, HT.out, HTL.out⟩ (by simp) (by simp only [tot] at hXt; omega)
     rw [← hrl0] at hC
     have HC := Lib.hid hC
     subst hx1
     have g2 : decide ((1 : Int) < 1) = false := by decide
     have hdl2 := hdl
     clear hx2 hX1 hrl0 hC hx HXL hXt
     go_wp2_with fail
     refine HC.out.mono ?_
     rintro e w3 ⟨rfl, D3, hk3, hp3, hb3⟩
     obtain ⟨T3, ov3, tv3, hT3, hTL3⟩ := hp3
     obtain ⟨A3, kv, rfl, hA3⟩ := ops_split hTL3
     have hA0 : A3 = [] := by
      have := ops_len A3
      rw [hA3] at this
      exact List.eq_nil_of_length_eq_zero this.symm
     subst hA0
     obtain ⟨r3, c3, rfl, _, hr3, hr3l, hcl3, hfr3⟩ := own_block hT3.rows (Nat.lt_succ_self 0)
     obtain ⟨d0, d1⟩ := hT3.kn.two
     have e1 := hcl3 1 kv rfl
     have hdl3 := hT3.lt
     obtain ⟨ys, h1, h2⟩ := hT3.kids _ (List.mem_singleton.2 rfl)
     have h1' : w3.ownsRow w.heap.size 56 6 kv (read l).len ys := h1
     obtain ⟨kq, kc, rfl⟩ := own_form h1'
     have hsl := Sl.of_own (q := fun k => w.heap.size ≤ k) (E := insS.enc _ w3 (read l)) h1' (IEnc.on (Kept.mono fun k hk _ => hT3.db k hk) h2) (fun k hk => (World.ownsRow.lt h1' k hk).1)
     have hsl : insS.sl (fun k => w.heap.size ≤ k) w3 (.slice kq (read l).len kc) (read l) := hsl
     have HSL := Lib.hid hsl
     have HB3 := Lib.hid (HB9.out.trans hb3)
     clear hk3 hb3 hT3 hTL3 hcl3 hfr3 h1 h1' h2 hsl hA3
     go_wp2_with fail
     go_ret
     exact ⟨_, _, rfl, HSL.out, HB3.out⟩
theorem pparse_all : ∀ N, PParse N
 | 0 => fun t W h => absurd h (Nat.not_lt_zero _)
 | N + 1 => fun t W h hs hm => pparse_step N (pparse_all N) t W (by omega) hs hm
theorem pparse17_any (s : ByteArray) (w : World) (hs : s.size ≤ 100000000) (hm : MX w) : Calls Tryz.prog 63 #[.string s] w fun e w' =>
  ∃ p c, e = .returned (.slice p (read s.data.toList).len c) ∧ insS.sl (fun k => w.heap.size ≤ k) w' (.slice p (read s.data.toList).len c) (read s.data.toList) ∧ Below w.heap.size w w' :=
 pparse_all (s.size + 1) s w (Nat.lt_succ_self _) hs hm
end Go.Proofs.YthieinfonomeeaaGreatDoor
namespace Go.Proofs.YthieinfonomeeaaGreatDoor
open Go.RowKit Doc Tit Inl
set_option linter.unusedVariables false
attribute [local go_sem ↓] Go.wp_at_zero Go.wp_at_succ
set_option maxRecDepth 10000 in
set_option maxHeartbeats 2000000 in
theorem pdecode_any (s : ByteArray) (w : World) (hs : s.size ≤ 100000000) : Calls Tryz.prog 102 #[.string s] w fun e w' => e = .returned (.string ⟨(dec s.data.toList).toArray⟩) ∧ Below w.heap.size w w' := by
 have hz : s.data.toList.length = s.size := by simp
 have hEN : ∀ i W, i ≤ s.size → Calls Tryz.prog 129 #[.string (s.extract i s.size)] W fun e w' => e = .returned (entV (ent (s.data.toList.drop i))) ∧ Below W.heap.size W w' := fun i W hi => by
  have h := pentity_any (s.extract i s.size) W (by rw [ByteArray.size_extract]; omega)
  rwa [Lib.extract_to_end] at h
 obtain ⟨w1, hmk, hO, hbm⟩ := make_bytes w s.size (by omega)
 have HO := Lib.hid hO
 have HBM := Lib.hid hbm
 clear hO hbm
 obtain ⟨l, hl⟩ : ∃ l, l = s.data.toList := ⟨_, rfl⟩
 have hdb := drop_byte s
 rw [← hl] at hdb hz hEN ⊢
 have HEN := Lib.hid hEN
 have HDB := Lib.hid hdb
 have HZ := Lib.hid hz
 clear hdb hl hEN hz
 go_enter Tryz.func102, Tryz.ntmps102
 go_wp2_with fail
 go_loopg [3, 4, 5, 6] (s.size + 1) (fun g s3 s4 s5 s6 wr => ∃ (i : Nat) (o : List UInt8), i ≤ s.size ∧ s.size < i + g ∧ s4 = .int .i64 i ∧ BOwn w.heap.size wr s3 o ∧ o.length ≤ i ∧ dec l = o ++ dec (l.drop i) ∧ Below w.heap.size w wr)
 case atStart => exact ⟨0, [], by omega, by omega, rfl, HO.out, by simp, rfl, HBM.out⟩
 case round =>
  obtain ⟨i, o, hi, hg, rfl, hown, hoi, hq, hbw⟩ := hrel
  have HQ := Lib.hid hq
  have HOWN := Lib.hid hown
  have HBW := Lib.hid hbw
  have hbz := hbw.size
  clear hq hown hbw
  by_cases hin : i < s.size
  ·have g1 : decide (i < s.size) = true := decide_eq_true hin
   have hii : (i : Int) ≤ (s.size : Int) := by omega
   have hC := HEN.out i wr hi
   have hdi := HDB.out i hin
   obtain ⟨E, hE⟩ : ∃ E, E = ent (l.drop i) := ⟨_, rfl⟩
   rw [← hE] at hC
   have HE := Lib.hid hE
   have HC := Lib.hid hC
   have HDI := Lib.hid hdi
   clear hC hE hdi
   cases E with
   | some y =>
     obtain ⟨x, n⟩ := y
     have hen := ent_len HE.out.symm
     rw [List.length_drop, HZ.out] at hen
     have hds := dec_some HE.out.symm
     rw [List.drop_drop] at hds
     have HDS := Lib.hid hds
     have g2 : decide (0 < n) = true := decide_eq_true (by omega)
     clear hds
     go_wp2_with fail
     refine HC.out.mono ?_
     rintro e w1 ⟨rfl, hb1⟩
     have hbz1 := hb1.size
     have HB1 := Lib.hid (HBW.out.trans (hb1.mono hbz))
     have HO1 := Lib.hid (HOWN.out.below hb1)
     have HOA := Lib.hid (HO1.out.below (below_new0 w1 (.cells #[.int .u8 (x.toNat : Int)] 5)))
     have HSB := Lib.hid (src_byte w1 5 x)
     clear hb1
     simp only [entV]
     go_wp2_with (at_builtin; go_must (refine append_bytes _ rfl _ _ rfl HOA.out rfl HSB.out rfl (by simp; omega) (by simp; omega) ?_); intro v' w3 hown3 hgr hat)
     have HOW3 := Lib.hid hown3
     have HB3 := Lib.hid (below_byte (HB1.out.trans ((below_new0 w1 _).mono (by omega))) HOA.out hgr (by simp; omega))
     clear hown3 hgr hat
     go_wp2_with fail
     go_roundg (s.size - i)
     case measure => omega
     case rel => exact ⟨i + n, o ++ [x], by omega, by omega, by go_num, HOW3.out, by simp; omega, by rw [HQ.out, HDS.out]; simp, HB3.out⟩
   | none =>
     have hds := HDI.out
     have hnn := HE.out
     rw [hds] at hnn
     have hdn := dec_none hnn.symm
     have HDN := Lib.hid hdn
     clear hds hnn hdn
     go_wp2_with fail
     refine HC.out.mono ?_
     rintro e w1 ⟨rfl, hb1⟩
     have hbz1 := hb1.size
     have HB1 := Lib.hid (HBW.out.trans (hb1.mono hbz))
     have HO1 := Lib.hid (HOWN.out.below hb1)
     have HOA := Lib.hid (HO1.out.below (below_new0 w1 (.cells #[.int .u8 (s[i].toNat : Int)] 5)))
     have HSB := Lib.hid (src_byte w1 5 s[i])
     clear hb1
     simp only [entV]
     go_wp2_with (at_builtin; go_must (refine append_bytes _ rfl _ _ rfl HOA.out rfl HSB.out rfl (by simp; omega) (by simp; omega) ?_); intro v' w3 hown3 hgr hat)
     have HOW3 := Lib.hid hown3
     have HB3 := Lib.hid (below_byte (HB1.out.trans ((below_new0 w1 _).mono (by omega))) HOA.out hgr (by simp; omega))
     clear hown3 hgr hat
     go_wp2_with fail
     go_roundg (s.size - i)
     case measure => omega
     case rel => exact ⟨i + 1, o ++ [s[i]], by omega, by omega, by go_num, HOW3.out, by simp; omega, by rw [HQ.out, HDI.out, HDN.out]; simp, HB3.out⟩
  ·have g1 : decide (i < s.size) = false := decide_eq_false hin
   have hout : dec l = o := by rw [HQ.out, List.drop_eq_nil_of_le (by rw [HZ.out]; omega), dec_nil, List.append_nil]
   have HOUT := Lib.hid hout
   have htx := HOWN.out.text
   clear hout
   go_wp2_with fail
   go_ret
   refine ⟨?_, HBW.out⟩
   rw [HOUT.out]
   rfl
end Go.Proofs.YthieinfonomeeaaGreatDoor
