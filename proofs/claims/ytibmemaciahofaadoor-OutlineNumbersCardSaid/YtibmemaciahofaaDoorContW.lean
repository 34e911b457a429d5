/-
  The program's table of contents. Conditions: those typed in each theorem (the library's table of powers of ten as it is laid).
-/
import Derived.Test.YtibmemaciahofaaDoorContRef
import Derived.Deep.DeepFit
namespace Go.Proofs.YtibmemaciahofaaDoor
open Go.RowKit Doc Cont
set_option linter.unusedVariables false
attribute [local go_sem ↓] Go.wp_at_zero Go.wp_at_succ

theorem own_snoc_form {e : TypeId} {q : Nat → Prop} {B nc : Nat} {w : World} {v : Value} {CA : List Ent} {x : Ent} (h : entS.own e q B w v (CA ++ [x])) (hn : CA.length = nc) : ∃ r c, v = .slice (some ⟨r, 0, none⟩) (nc + 1) c := by
  obtain ⟨xs, h1, _⟩ := h
  have hl : entS.len (CA ++ [x]) = nc + 1 := by show (CA ++ [x]).length = _; rw [List.length_append, hn]; rfl
  rw [hl] at h1
  rcases h1.2 with ⟨_, h0⟩ | ⟨g, cap, cur, rfl, _⟩
  · omega
  · exact ⟨g, cap, rfl⟩
theorem list_set_right {α : Type} (A B : List α) (j : Nat) (u : α) : (A ++ B).set (A.length + j) u = A ++ B.set j u := by
  rw [List.set_append_right _ _ (by omega), show A.length + j - A.length = j by omega]
/-- the last entry is written anew -/
theorem ent_store {e : TypeId} {q : Nat → Prop} {B nc r c : Nat} {w : World} {CA : List Ent} {x : Ent} (h : entS.own e q B w (.slice (some ⟨r, 0, none⟩) (nc + 1) c) (CA ++ [x])) (hn : CA.length = nc) (y : Ent) :
    (∃ a0 a1 a2 a3, w.cell? ⟨r, nc * 4, none⟩ = some a0 ∧ w.cell? ⟨r, nc * 4 + 1, none⟩ = some a1 ∧ w.cell? ⟨r, nc * 4 + 2, none⟩ = some a2 ∧ w.cell? ⟨r, nc * 4 + 3, none⟩ = some a3) ∧ (∀ j, w.frozen? ⟨r, j, none⟩ = false) ∧
    entS.own e q B ((((w.setCell ⟨r, nc * 4, none⟩ (.int .i64 y.lv)).setCell ⟨r, nc * 4 + 1, none⟩ (.string y.num)).setCell ⟨r, nc * 4 + 2, none⟩ (.string y.txt)).setCell ⟨r, nc * 4 + 3, none⟩ (.string y.anc)) (.slice (some ⟨r, 0, none⟩) (nc + 1) c) (CA ++ [y]) := by
  obtain ⟨xs, h1, h2⟩ := h
  have hl : ∀ z : Ent, entS.len (CA ++ [z]) = nc + 1 := fun z => by show (CA ++ [z]).length = _; rw [List.length_append, hn]; rfl
  rw [hl] at h1
  have h2' : xs = EEnc CA ++ EEnc [x] := by rw [← EEnc_app]; exact h2
  have hE : (EEnc CA).length = nc * 4 := by rw [EEnc_len, hn]
  subst h2'
  have hc : ∀ j u, (EEnc [x])[j]? = some u → j < 4 → w.cell? ⟨r, nc * 4 + j, none⟩ = some u := by
    intro j u hu hj
    rw [h1.cellAt (nc * 4 + j) (by show _ < (nc + 1) * 4; omega), List.getElem?_append_right (by omega), hE, show nc * 4 + j - nc * 4 = j by omega]
    exact hu
  refine ⟨⟨_, _, _, _, hc 0 _ rfl (by decide), hc 1 _ rfl (by decide), hc 2 _ rfl (by decide), hc 3 _ rfl (by decide)⟩, fun j => h1.frozenAt j, ?_⟩
  have s1 := ((((h1.stored (nc * 4) (.int .i64 y.lv)).1.stored (nc * 4 + 1) (.string y.num)).1.stored (nc * 4 + 2) (.string y.txt)).1.stored (nc * 4 + 3) (.string y.anc)).1
  refine ⟨_, by rw [hl]; exact s1, ?_⟩
  show _ = EEnc (CA ++ [y])
  rw [EEnc_app, ← hE, show (EEnc CA).length = (EEnc CA).length + 0 by rfl]
  simp only [list_set_right, Nat.add_assoc, Nat.zero_add]
  rfl
theorem ent_grown {e : TypeId} {q : Nat → Prop} {B : Nat} {w w' : World} {v : Value} {L : List Ent} {row : Option Nat} (h : entS.own e q B w v L) (hg : w.grownBy w' row) (hne : ∀ k, v.ownBlock = some k → row ≠ some k) : entS.own e q B w' v L := by
  have hl := h.lt
  obtain ⟨xs, h1, h2⟩ := h
  exact ⟨xs, own_on h1 (fun k hk => hg.block k (hl k hk).2 (Ne.symm (hne k hk))), h2⟩
theorem known_grown {w w' : World} {g : Nat} {t : TypeId} {cs : Array Value} {row : Option Nat} (h : Known w g t cs) (hg : w.grownBy w' row) (hne : row ≠ some g) : Known w' g t cs := (hg.block g h.lt (Ne.symm hne)).trans h
theorem grown_put {w w' : World} {g : Nat} (h : w.grownBy w' (some g)) (i : Nat) (u : Value) : w.grownBy (w'.setCell ⟨g, i, none⟩ u) (some g) :=
  ⟨h.os, h.tape, h.output, by rw [World.size_setCell]; exact h.size, fun k hk hn => (Below.heap_setCell _ _ _ _ (fun e => hn (by rw [e]))).trans (h.block k hk hn)⟩
theorem grown_drew {w w' : World} {g : Option Nat} (h : w.grownBy w' g) : w.grownBy w'.drew g := ⟨h.os, h.tape, h.output, h.size, h.block⟩
theorem parent_snoc {e : TypeId} {q : Nat → Prop} {B nc : Nat} {w : World} {p : Option Addr} {c : Nat} {CA : List Ent} {x : Ent} (h : entS.own e q B w (.slice p (nc + 1) c) (CA ++ [x])) (hn : CA.length = nc) (hl : nc ≤ 900000) :
    Calls Tryd.prog 38 #[.slice p (nc + 1) c, .int .i64 nc] w fun e w' => e = .returned (.int .i64 (par CA x.lv nc)) ∧ Below w.heap.size w w' := by
  subst hn
  have hE := (Ents.of h.sl).1
  have := parent_any p (CA ++ [x]) CA.length c w hE (by simp) (by simp; omega)
  rw [getD_snoc, par_app CA [x] x.lv CA.length (Nat.le_refl _), show (CA ++ [x]).length = CA.length + 1 by simp] at this
  exact this

set_option maxRecDepth 20000 in
set_option maxHeartbeats 4000000 in
theorem cont_any (q : Nat → Prop) (L : Bls) (p : Option Addr) (c : Nat) (w : World) (hM : L.size ≤ 900000) (hK : L.bulk ≤ 10000000) (hv : blsS.sl q w (.slice p L.len c) L) (ht : Tab w) :
    Calls Tryd.prog 16 #[.slice p L.len c] w fun e w' => ∃ p c, e = .returned (.slice p (cont L).length c) ∧ Below w.heap.size w w' ∧ entS.sl (fun k => w.heap.size ≤ k) w' (.slice p (cont L).length c) (cont L) := by
  obtain ⟨hF, -, hnc, hc⟩ := Shp.rest_start hv
  have hlen := L.len_size
  obtain ⟨n, hn⟩ : ∃ n, n = L.len := ⟨_, rfl⟩
  rw [← hn] at hlen hnc ⊢
  have HN := Lib.hid hn
  have HTab := Lib.hid ht
  have hmm := @run_makeMap Tryd.prog
  clear hn hv ht
  go_enter Tryd.func16, Tryd.ntmps16
  go_wp2_with fail
  go_loopg [3, 7, 8, 9, 10, 11, 12, 17] (n + 1) (fun g s3 s7 s8 s9 s10 s11 s12 s17 wr => ∃ (A R : Bls), A.app R = L ∧ A.len + R.len = n ∧ R.len < g ∧ s17 = .int .i64 A.len ∧ entS.own 54 (fun _ => False) (w.heap.size + 2) wr s3 (cont A) ∧ OkE (cont A)
    ∧ SetM wr w.heap.size (cont A).length (taken (cont A)) ∧ CntM wr (w.heap.size + 1) (cont A).length (fun p => cnt (cont A) p (cont A).length) ∧ Below w.heap.size w wr ∧ blsS.rest q w p A.len R)
  case atStart =>
    refine ⟨.nil, L, rfl, by simp [Bls.len]; exact HN.out.symm, by rw [← HN.out]; omega, rfl, Shp.own.nil, OkE.nil, (SetM.made w).below (below_new0 _ _), ?_, (below_new0 w _).trans ((below_new0 _ _).mono (by simp)), hF⟩
    have := CntM.made (w.alloc (.map #[] 0))
    rwa [World.size_alloc] at this
  case round =>
    obtain ⟨A, R, hAR, hi1, hg, rfl, hown, hok, hset, hcnt, hb, hR⟩ := hrel
    have HAR := Lib.hid hAR
    generalize hi : A.len = i at *
    have HI := Lib.hid hi
    have hcl : (cont A).length ≤ i := by have := contF_len A []; rw [hi] at this; unfold cont; simpa using this
    clear hAR hi hmm
    cases R with
    | nil =>
      have g1 : decide (i < n) = false := by simp [Bls.len] at hi1; simp; omega
      have HO := Lib.hid hown
      clear hi1 hR hown hset hcnt
      go_wp2_with fail
      obtain ⟨up, uc, rfl⟩ := HO.out.form
      go_ret
      have e1 : A = L := by have := HAR.out; simpa using this
      subst e1
      exact ⟨_, _, rfl, hb, entS.sl_on HO.out.sl (Kept.mono fun k hk _ => by rcases hk with hk | hk; exact hk.elim; exact Nat.le_trans (Nat.le_add_right _ 2) hk)⟩
    | cons a l t m k r =>
      rcases hR with hR | ⟨b, o, ys, rfl, hqb, hbl, hA, hE⟩
      · cases hR
      · obtain ⟨mp, mc, kp, kc, c0, c1, c2, c3, c4, hm, hk, hr⟩ := (BEnc.on (Kept.belowLt hb) hE).head (hA.below hbl hb)
        have g1 : decide (i < n) = true := by simp [Bls.len] at hi1; simp; omega
        have hin : i < n := by simp [Bls.len] at hi1; omega
        have hsz : L.size = A.size + (m.size + k.size + r.size + 1) := by rw [← HAR.out, Bls.size_app]; simp only [Bls.size]
        have hbk : m.bulk ≤ L.bulk := by rw [← HAR.out, Bls.bulk_app]; simp only [Bls.bulk]; omega
        have hms2 : m.size ≤ 1000000 := by omega
        have hT : blsS.rest q w (some ⟨b, o, none⟩) (i + 1) r := .inr ⟨b, o, ys, rfl, hqb, hbl, hA, hE.tail⟩
        have HT := Lib.hid hT
        have HG := Lib.hid hi1
        have HGG := Lib.hid hg
        have hsb := hb.size
        have hl : (A.app (.cons a l t m k .nil)).len = i + 1 := by rw [Bls.len_app, HI.out]; rfl
        have HL := Lib.hid hl
        have HM : Hid (cont (A.app (.cons a l t m k .nil)) = if a = 1 then cont A ++ [ent (cont A) l m.plain] else cont A) := Lib.hid (by unfold cont; rw [contF_app]; rfl)
        have hnew := below_new0 wr (.cells #[.int .i64 a, .int .i64 l, .string t, .slice mp m.len mc, .slice kp k.len kc] 50)
        by_cases ha : a = 1
        · have b1 : (a != 1) = false := by simpa using ha
          rw [if_pos ha] at HM
          have hP := fun W (hW : Below wr.heap.size wr W) => plain_any _ m mp mc W hms2 (by omega) (insS.sl_on hm (Kept.below hW))
          have hpl : m.plain.length ≤ 10000000 := Nat.le_trans m.plain_le (by omega)
          have hTs : (⟨m.plain.toArray⟩ : ByteArray).size ≤ 10000000 := by rw [str_size (l := m.plain) rfl]; exact hpl
          have hTl : (⟨m.plain.toArray⟩ : ByteArray).data.toList = m.plain := rfl
          have hok2 := hok.snoc l m.plain (by omega) (by omega)
          generalize m.plain = pl at *
          generalize hTT : (⟨pl.toArray⟩ : ByteArray) = T at *
          have HP := Lib.hid hP
          have HO := Lib.hid hown
          have HS := Lib.hid hset
          have HCt := Lib.hid hcnt
          have HOK := Lib.hid hok
          have HOK2 := Lib.hid hok2
          have HB := Lib.hid hb
          have HNW := Lib.hid hnew
          have KB := Known.made wr 50 #[.int .i64 a, .int .i64 l, .string t, .slice mp m.len mc, .slice kp k.len kc]
          have HTT := Lib.hid hTT
          have HTl := Lib.hid hTl
          clear ha hg hi1 hT hl hr hk hm hP hown hset hcnt hok hok2 hnew hTT hTl
          go_upto_region 8 with fail
          obtain ⟨V, hV⟩ : ∃ V, V = wr.alloc (.cells #[.int .i64 a, .int .i64 l, .string t, .slice mp m.len mc, .slice kp k.len kc] 50) := ⟨_, rfl⟩
          rw [← hV] at HNW KB ⊢
          have hVs : V.heap.size = wr.heap.size + 1 := by rw [hV]; simp
          have HVs := Lib.hid hVs
          clear hV hVs
          go_cut [8] from 18 to 85 (fun s8 wc => ∃ g, s8 = .pointer (some ⟨g, 0, none⟩) ∧ V.heap.size ≤ g ∧ Known wc g 54 #[.int .i64 l, .string ⟨#[]⟩, .string T, .string ⟨#[]⟩] ∧ Below V.heap.size V wc)
          case first =>
            rename_i Q0 K0 hK0 J K' hJ hK'
            refine cut_gen hJ hK' ?_
            clear hJ hK' hK0
            intro J K' hJ hK'
            have hb := (Below.refl V.heap.size V).drew
            have hsz := hb.size
            have hzz : V.heap.size ≤ V.heap.size := Nat.le_refl _
            have hSC : ∀ W, Below V.heap.size V W → W.cell? ⟨wr.heap.size, 1, none⟩ = some (.int .i64 l) ∧ W.cell? ⟨wr.heap.size, 3, none⟩ = some (.slice mp m.len mc) := fun W hW => ⟨(KB.on hW).cell 1, (KB.on hW).cell 3⟩
            have HSC := Lib.hid hSC
            obtain ⟨y1, y3⟩ := hSC _ hb
            clear hSC c0 c1 c2 c3 c4 KB
            go_region_held3 (fun W => W.cell? ⟨wr.heap.size, 1, none⟩ = some (.int .i64 l) ∧ W.cell? ⟨wr.heap.size, 3, none⟩ = some (.slice mp m.len mc))
              (first | exact HSC.out _ hb | exact HSC.out _ (below_then hb (below_new0 _ _)) | exact HSC.out _ (new_drew _ _) | exact HSC.out _ (below_put4 hb (by omega) _ _ _ _))
              (first
                | (go_at_call 37; (first | with_reducible refine (HP.out _ (below_then HNW.out hb)).mono ?_ | with_reducible refine (HP.out _ (below_then HNW.out (new_drew _ _))).mono ?_); rintro e wa ⟨rfl, hba⟩; (try (have KX := (known_drew _ _ _).on hba)); (first | have hb := below_then hb hba | have hb := below_then (new_drew _ _) hba); have hsz := hb.size; (try obtain ⟨x0, x1, x2, x3⟩ := KX.four); (try have f0 := KX.free 0); (try have f1 := KX.free 1); (try have f2 := KX.free 2); (try have f3 := KX.free 3))
                | fail)
            all_goals
              clear HP HO HSC
              go_wp2_with fail
              go_meet
              case rel => first
                | exact ⟨_, rfl, by omega, (((KX.put 0 _).put 1 _).put 2 _).put 3 _, below_put4 hb (by omega) _ _ _ _⟩
                | exact ⟨_, rfl, by omega, Known.made _ _ _, below_then hb (below_new0 _ _)⟩
          case rest =>
            obtain ⟨g, rfl, hgl, KX, hb2⟩ := hcut
            have hVs := HVs.out
            have hbw := HNW.out.trans (hb2.mono (by omega))
            have hwz := hbw.size
            have hgz := KX.lt
            have hlc : (cont A).length ≤ 900000 := by omega
            have ho2 := HO.out.below hbw
            have hs2 := HS.out.below hbw
            have hc2 := HCt.out.below hbw
            have hbb := HB.out.trans (hbw.mono hsb)
            have HBB := Lib.hid hbb
            have HTw := Lib.hid (HTab.out.on hbb)
            have hrow := HO.out.lt
            have hb2l := HCt.out.lt
            obtain ⟨nc, hnc2⟩ : ∃ nc, nc = (cont A).length := ⟨_, rfl⟩
            obtain ⟨CA, hCA⟩ : ∃ CA, CA = cont A := ⟨_, rfl⟩
            rw [← hCA] at ho2 hs2 hc2 hnc2 hlc HM HOK HOK2
            rw [← hnc2] at hs2 hc2 hlc
            have HCA := Lib.hid hCA
            have HNC := Lib.hid hnc2
            have HSs := Lib.hid hs2
            have HCc := Lib.hid hc2
            have HRW := Lib.hid hrow
            have HBX := Lib.hid hb2
            clear hCA hnc2 HS HCt HO HP HNW KB c0 c1 c2 c3 c4 hs2 hc2 hrow hb2 hbw hbb
            obtain ⟨x0, x1, x2, x3⟩ := KX.four
            have hoA := ho2.below (below_new0 _ (.cells #[.int .i64 l, .string ⟨#[]⟩, .string T, .string ⟨#[]⟩] 54))
            have hsr := src_ent (q := Shp.kind (fun _ => False) (w.heap.size + 2) u3) (w := wc) (ty := 54) ⟨l, ⟨#[]⟩, T, ⟨#[]⟩⟩
            have HOA := Lib.hid hoA
            have HSR := Lib.hid hsr
            have hlz : entS.len CA = nc := HNC.out.symm
            have HLZ := Lib.hid hlz
            have KXa := KX.alloc (.cells #[.int .i64 l, .string ⟨#[]⟩, .string T, .string ⟨#[]⟩] 54)
            have HKX := Lib.hid KXa
            have HSa := Lib.hid (HSs.out.below (below_new0 wc (.cells #[.int .i64 l, .string ⟨#[]⟩, .string T, .string ⟨#[]⟩] 54)))
            have HCa := Lib.hid (HCc.out.below (below_new0 wc (.cells #[.int .i64 l, .string ⟨#[]⟩, .string T, .string ⟨#[]⟩] 54)))
            have HBa := Lib.hid (HBB.out.trans ((below_new0 wc (.cells #[.int .i64 l, .string ⟨#[]⟩, .string T, .string ⟨#[]⟩] 54)).mono (by omega)))
            clear hlz hoA hsr ho2 KX KXa
            go_wp2_with (at_builtin; go_must (refine append_shp entS tyE _ rfl _ _ rfl HOA.out rfl HSR.out rfl (by rw [HLZ.out]; show (nc + 1) * 57 ≤ _; omega) (by simp; omega) ?_); intro v' w2 hown' hgrow hbel hkd; obtain ⟨rw0, c4', rfl⟩ : ∃ rw0 c4', v' = .slice (some ⟨rw0, 0, none⟩) (nc + 1) c4' := own_snoc_form hown' HLZ.out)
            have hC := parent_snoc hown' HLZ.out (by omega)
            have hP0 := par_bd CA l nc
            have hcnl := cnt_le CA (par CA l nc) nc
            have hgr2 := hgrow.size
            have hro2 := HRW.out
            have KX2 : Known w2 g 54 #[.int .i64 l, .string ⟨#[]⟩, .string T, .string ⟨#[]⟩] := (hgrow.block g HKX.out.lt (fun e => by have := hro2 g e.symm; omega)).trans HKX.out
            have hs3 := HSa.out.grown hgrow (fun e => by have := hro2 _ e.symm; omega)
            have hc3 := HCa.out.grown hgrow (fun e => by have := hro2 _ e.symm; omega)
            have hb3 := HBa.out.grown hgrow (by simp; omega) (fun k hk => by have := hro2 k hk; omega)
            have hrow3 := hown'.lt
            have hrg0 : (Value.slice (some ⟨rw0, 0, none⟩) (nc + 1) c4').ownBlock ≠ some g := ((hkd g ⟨.inr (by omega), fun e => by have := hro2 g e; omega⟩ (by simp; omega)).1).2
            have HRG := Lib.hid hrg0
            have HC := Lib.hid hC
            have HKX2 := Lib.hid KX2
            have HS3 := Lib.hid hs3
            have HC3 := Lib.hid hc3
            have HB3 := Lib.hid hb3
            have HO3 := Lib.hid hown'
            have HRW3 := Lib.hid hrow3
            clear hC KX2 hs3 hc3 hb3 hown' hrow3 hro2 hrg0 HSa HCa HBa HKX HSs HCc HOA HSR hkd hbel
            go_wp2_with fail
            refine HC.out.mono ?_
            rintro e w3 ⟨rfl, hb4⟩
            have hb4z := hb4.size
            obtain ⟨P, hP⟩ : ∃ P, P = par CA l nc := ⟨_, rfl⟩
            obtain ⟨x, hx⟩ : ∃ x, x = cnt CA P nc := ⟨_, rfl⟩
            rw [← hP] at hP0 hcnl ⊢
            rw [← hx] at hcnl
            have HP := Lib.hid hP
            have HX := Lib.hid hx
            have HKX3 := Lib.hid (HKX2.out.on hb4)
            have HS4 := Lib.hid (HS3.out.below hb4)
            have hc4 := HC3.out.below hb4
            have HO4 := Lib.hid (HO3.out.below hb4)
            have HB4 := Lib.hid (HB3.out.trans (hb4.mono (by have := HB3.out.size; omega)))
            have hfx : (fun p => cnt CA p nc) P = x := by rw [hx]
            generalize hfc : (fun p => cnt CA p nc) = fC at *
            have HFC := Lib.hid hfc
            clear hfc
            have hPb : -9223372036854775808 ≤ P ∧ P ≤ 9223372036854775807 := by omega
            have HC4 := Lib.hid hc4
            have HFX := Lib.hid hfx
            clear HC HKX2 HS3 HC3 HO3 HB3 hP hx hc4 hfx
            go_wp2_with (first
              | (at_lookup; (with_reducible refine cntM_look w3 rfl _ _ rfl HC4.out P hPb rfl rfl ?_); rw [HFX.out])
              | (at_mapUpdate; go_must (refine cntM_set w3 rfl _ _ _ rfl HC4.out (by unfold maxLen; omega) P hPb (x + 1) (by omega) rfl rfl rfl ?_); intro w4 hc5 hg4; clear HC4; have HC5 := Lib.hid hc5; clear hc5)
              | (at_lookup; go_must (refine cntM_look w4 rfl _ _ rfl HC5.out P hPb rfl rfl ?_); rw [if_pos rfl]))
            have hg4z := hg4.size
            have hro4 := HRW3.out
            have KX4 := known_grown HKX3.out hg4 (fun e => by injection e with e; omega)
            have hs5 := HS4.out.grown hg4 (fun e => by injection e with e; omega)
            have hb5 := HB4.out.grown hg4 (by have := HB4.out.size; omega) (fun k hk => by injection hk with hk; omega)
            have ho5 := ent_grown HO4.out hg4 (fun k hk e => by have := hro4 k hk; injection e with e; omega)
            have hI := itoa_any ((x + 1 : Nat) : Int) w4 (by omega) (by omega) ((HTab.out).on hb5)
            rw [itoa_nat] at hI
            have hDs := dec_size (x + 1) (by omega)
            obtain ⟨DD, hDD⟩ : ∃ DD : ByteArray, DD = ⟨(Lib.decDigits (x + 1)).toArray⟩ := ⟨_, rfl⟩
            rw [← hDD] at hI hDs
            have e1 : (((x + 1 : Nat) : Int) = (x : Int) + 1) := by omega
            rw [e1] at hI
            have HDD := Lib.hid hDD
            have HI2 := Lib.hid hI
            have HKX4 := Lib.hid KX4
            have HS5 := Lib.hid hs5
            have HB5 := Lib.hid hb5
            have HO5 := Lib.hid ho5
            clear KX4 hs5 hb5 ho5 hI hDD e1 HKX3 HS4 HB4 HO4 hro4
            go_wp2_with fail
            refine HI2.out.mono ?_
            rintro e w5 ⟨rfl, hb6⟩
            have hb6z := hb6.size
            have KX5 := HKX4.out.on hb6
            have hs6 := HS5.out.below hb6
            have hc6 := HC5.out.below hb6
            have ho6 := HO5.out.below hb6
            have hb6' := HB5.out.trans (hb6.mono (by have := HB5.out.size; omega))
            obtain ⟨y0, y1, y2, y3⟩ := KX5.four
            have yf := KX5.free 1
            have yl := KX5.lt
            have HKX5 := Lib.hid KX5
            have HS6 := Lib.hid hs6
            have HC6 := Lib.hid hc6
            have HO6 := Lib.hid ho6
            have HB6 := Lib.hid hb6'
            clear hs6 hc6 ho6 hb6' KX5 HKX4 HS5 HC5 HO5 HB5 HI2
            have hNB : Hid (numB CA l = (if P < 0 then [] else (CA.getD P.toNat default).num.data.toList ++ [46]) ++ Lib.decDigits (x + 1)) := Lib.hid (by
              have h1 : CA.length = nc := HLZ.out
              unfold numB
              rw [h1, ← HP.out, ← HX.out])
            obtain ⟨F1, hF1⟩ : ∃ F1 : ByteArray, F1 = ⟨(numB CA l).toArray⟩ := ⟨_, rfl⟩
            have HF1 := Lib.hid hF1
            clear hF1
            go_upto_if 50 with fail
            go_cut [8] from 18 to 85 (fun s8 wd => s8 = .pointer (some ⟨g, 0, none⟩) ∧ Known wd g 54 #[.int .i64 l, .string F1, .string T, .string ⟨#[]⟩] ∧ w5.grownBy wd (some g))
            case first =>
              by_cases hneg : P < 0
              · have d0 : decide (0 ≤ P) = false := by simp; omega
                go_wp2_with fail
                go_meet
                case rel =>
                  have hF1 : F1 = DD := by rw [HF1.out, hNB.out, if_pos hneg, List.nil_append, HDD.out]
                  exact ⟨rfl, by rw [hF1]; exact HKX5.out.put 1 _, grown_put (World.grownBy.refl _ _) _ _⟩
              · obtain ⟨pm, rfl⟩ : ∃ pm : Nat, P = pm := ⟨P.toNat, by omega⟩
                have hpm : pm < nc := by omega
                have hE : Ents w5 (some ⟨rw0, 0, none⟩) (CA ++ [⟨l, ⟨#[]⟩, T, ⟨#[]⟩⟩]) := (Ents.of HO6.out.sl).1
                obtain ⟨rb, ro, he, hrb, -, r1, -⟩ := hE.at (k := pm) (by have := HLZ.out; change CA.length = nc at this; simp; omega)
                injection he with he
                injection he with e1 e2
                subst e1 e2
                rw [Nat.zero_add] at r1
                have hgd : (CA ++ [(⟨l, ⟨#[]⟩, T, ⟨#[]⟩⟩ : Ent)]).getD pm default = CA.getD pm default := by
                  have := HLZ.out; change CA.length = nc at this
                  simp [List.getD, List.getElem?_append_left (show pm < CA.length by omega)]
                rw [hgd] at r1
                have hnum := (HOK.out pm (by have := HLZ.out; change CA.length = nc at this; omega)).1
                have hNB2 : Hid (F1.data.toList = (CA.getD pm default).num.data.toList ++ [46] ++ DD.data.toList) := Lib.hid (by rw [HF1.out, hNB.out, if_neg hneg, HDD.out]; rfl)
                generalize (CA.getD pm default).num = num at *
                have hrg : rw0 ≠ g := fun e => HRG.out (by rw [← e]; rfl)
                have r2 : (w5.setCell ⟨g, 1, none⟩ (.string DD)).cell? ⟨rw0, pm * 4 + 1, none⟩ = some (.string num) := by
                  rw [show (w5.setCell ⟨g, 1, none⟩ (.string DD)).cell? ⟨rw0, pm * 4 + 1, none⟩ = w5.cell? ⟨rw0, pm * 4 + 1, none⟩ from World.cell?_of_block (Below.heap_setCell _ _ _ _ hrg)]
                  exact r1
                have hs1 : num.size ≤ 100000000 := by omega
                have hs2 : ¬ 9223372036854775807 < num.size + 1 := by omega
                have hs3 : ¬ 9223372036854775807 < num.size + 1 + DD.size := by omega
                have hp0 : (0 : Int) ≤ (pm : Int) := by omega
                have hp1 : (pm : Int) < (nc : Int) + 1 := by omega
                clear r1 hgd hnum hE hneg
                go_wp2_with fail
                go_region
                have hF1 : F1 = num ++ ⟨#[46]⟩ ++ DD := ByteArray.ext (Array.toList_inj.1 (by rw [hNB2.out]; simp))
                have HF1b := Lib.hid hF1
                clear hF1
                all_goals
                  go_wp2_with fail
                  go_meet
                  case rel => exact ⟨rfl, by rw [HF1b.out]; exact (HKX5.out.put 1 _).put 1 _, grown_drew (grown_put (grown_put (World.grownBy.refl _ _) _ _) _ _)⟩
            case rest =>
              obtain ⟨rfl, KX6, hg6⟩ := hcut
              have hg6z := hg6.size
              obtain ⟨z0, z1, z2, z3⟩ := KX6.four
              have zf := KX6.free 3
              have zl := KX6.lt
              have hro6 := HRW3.out
              have hs7 := HS6.out.grown hg6 (fun e => by injection e with e; omega)
              have hc7 := HC6.out.grown hg6 (fun e => by injection e with e; omega)
              have ho7 := ent_grown HO6.out hg6 (fun k hk e => HRG.out (hk.trans e.symm))
              have hb7 := HB6.out.grown hg6 (by have := HB6.out.size; omega) (fun k hk => by injection hk with hk; omega)
              have hAn := anchor_any T wc (by omega)
              have ha2 := Anc.anchor_len T.data.toList
              have ha3 : T.data.toList.length = T.size := by simp
              obtain ⟨F2, hF2⟩ : ∃ F2 : ByteArray, F2 = ⟨(Anc.anchor T.data.toList).toArray⟩ := ⟨_, rfl⟩
              have hF2s : F2.size ≤ 30000001 := by rw [hF2, str_size (l := Anc.anchor T.data.toList) rfl]; omega
              rw [← hF2] at hAn
              have HF2 := Lib.hid hF2
              have HAn := Lib.hid hAn
              have HKX6 := Lib.hid KX6
              have HS7 := Lib.hid hs7
              have HC7 := Lib.hid hc7
              have HO7 := Lib.hid ho7
              have HB7 := Lib.hid hb7
              clear hF2 hAn KX6 hs7 hc7 ho7 hb7 ha2 ha3 hro6 z0 z1 z3 zf zl HKX5 HS6 HC6 HO6 HB6
              go_wp2_with fail
              refine HAn.out.mono ?_
              rintro e w7 ⟨rfl, hb8⟩
              have hb8z := hb8.size
              have KX7 := HKX6.out.on hb8
              obtain ⟨z0, z1, z2', z3⟩ := KX7.four
              have zf := KX7.free 3
              have zl := KX7.lt
              have HKX7 := Lib.hid KX7
              have HS8 := Lib.hid (HS7.out.below hb8)
              have HC8 := Lib.hid (HC7.out.below hb8)
              have HO8 := Lib.hid (HO7.out.below hb8)
              have HB8 := Lib.hid (HB7.out.trans (hb8.mono (by have := HB7.out.size; omega)))
              clear KX7 HS7 HC7 HO7 HB7 HKX6 z2 z2' HAn
              go_wp2_with fail
              go_loopg [12] (nc + 2) (fun g' s12 ws => ∃ (mm : Nat) (X : ByteArray), 1 ≤ mm ∧ mm ≤ nc + 1 ∧ nc + 2 - mm ≤ g' ∧ s12 = .int .i64 ((mm + 1 : Nat) : Int) ∧ X.data.toList = cand F2.data.toList mm ∧ (∀ j, 1 ≤ j → j < mm → taken CA (cand F2.data.toList j) = true) ∧ Known ws g 54 #[.int .i64 l, .string F1, .string T, .string X] ∧ w7.grownBy ws (some g))
              case atStart => exact ⟨1, F2, Nat.le_refl _, by omega, by omega, rfl, by simp [cand], fun j h1 h2 => by omega, HKX7.out.put 3 _, grown_put (World.grownBy.refl _ _) _ _⟩
              case round =>
                obtain ⟨mm, X, hm1, hm2, hgg, rfl, hX, hj, KX8, hg8⟩ := hrel
                have hg8z := hg8.size
                have hXs := cand_size hX (by omega)
                have hFl : F2.data.toList.length = F2.size := by simp
                obtain ⟨v0, v1, v2, v3⟩ := KX8.four
                have vf := KX8.free 3
                have vl := KX8.lt
                have HKX8 := Lib.hid KX8
                have HX8 := Lib.hid hX
                have HJ := Lib.hid hj
                have hs9 := Lib.hid (HS8.out.grown hg8 (fun e => by injection e with e; omega))
                have e1 : (((mm + 1 : Nat) : Int) = (mm : Int) + 1) := by omega
                rw [e1]
                clear KX8 hX hj
                by_cases htk : taken CA (cand F2.data.toList mm) = true
                · have HTK := Lib.hid htk
                  have hle : mm ≤ nc := by
                    have h1 : CA.length = nc := HLZ.out
                    have := taken_le CA F2.data.toList mm (fun j h1 h2 => by
                      by_cases e : j = mm
                      · rw [e]; exact htk
                      · exact HJ.out j h1 (by omega))
                    omega
                  have htw : Tab wr := HTab.out.on ((HB8.out).grown hg8 (by have := HB8.out.size; omega) (fun k hk => by injection hk with hk; omega))
                  have hI := itoa_any ((mm + 1 : Nat) : Int) wr (by omega) (by omega) htw
                  rw [itoa_nat] at hI
                  have hDs := dec_size (mm + 1) (by omega)
                  have HCN := Lib.hid (cand_next F2 mm hm1)
                  obtain ⟨D2, hDD⟩ : ∃ D2 : ByteArray, D2 = ⟨(Lib.decDigits (mm + 1)).toArray⟩ := ⟨_, rfl⟩
                  rw [← hDD] at hI hDs
                  rw [e1] at hI
                  have HD2 := Lib.hid hDD
                  have HI3 := Lib.hid hI
                  clear htk htw hI hDD e1
                  go_wp2_with (at_lookup; go_must (refine setM_look wr rfl _ _ rfl hs9.out X (by omega) rfl rfl ?_); rw [HX8.out, HTK.out])
                  refine HI3.out.mono ?_
                  rintro e w9 ⟨rfl, hb9⟩
                  have KX9 := HKX8.out.on hb9
                  obtain ⟨t0, t1, t2, t3⟩ := KX9.four
                  have tf := KX9.free 3
                  have tl := KX9.lt
                  have HKX9 := Lib.hid KX9
                  have HG9 : Hid (w7.grownBy w9 (some g)) := Lib.hid (by have := hg8; exact ⟨hb9.os.trans this.os, hb9.tape.trans this.tape, hb9.output.trans this.output, Nat.le_trans this.size hb9.size, fun k hk hn => (hb9.block k (Nat.lt_of_lt_of_le hk this.size)).trans (this.block k hk hn)⟩)
                  clear KX9 v0 v1 v2 v3 vf vl hs9
                  go_wp2_with fail
                  go_roundg (nc + 2 - (mm + 1))
                  case measure => omega
                  case rel => exact ⟨mm + 1, _, by omega, by omega, by omega, by go_num, HCN.out _ HD2.out, fun j h1 h2 => by
                    by_cases e : j = mm
                    · rw [e]; exact HTK.out
                    · exact HJ.out j h1 (by omega), HKX9.out.put 3 _, grown_put HG9.out _ _⟩
                · have hf : taken CA (cand F2.data.toList mm) = false := by simpa using htk
                  have HTF := Lib.hid hf
                  clear htk hf e1
                  go_wp2_with (first
                    | (at_lookup; go_must (refine setM_look wr rfl _ _ rfl hs9.out X (by omega) rfl rfl ?_); rw [HX8.out, HTF.out])
                    | (at_mapUpdate; go_must (refine setM_set wr rfl _ _ _ rfl hs9.out (by unfold maxLen; omega) X (by omega) rfl rfl rfl ?_); intro w9 hs10 hg10; have hkk := known_grown HKX8.out hg10 (fun e => by injection e with e; omega); obtain ⟨t0, t1, t2, t3⟩ := hkk.four; have tl := hkk.lt; clear hkk; obtain ⟨⟨a0, a1, a2, a3, k0, k1, k2, k3⟩, kf, ko⟩ := ent_store (CA := CA) (x := ⟨l, ⟨#[]⟩, T, ⟨#[]⟩⟩) (ent_grown (ent_grown HO8.out hg8 (fun k hk e => HRG.out (hk.trans e.symm))) hg10 (fun k hk e => by have := HRW3.out k hk; injection e with e; omega)) HLZ.out ⟨l, F1, T, X⟩; have kf0 := kf (nc * 4); have kf1 := kf (nc * 4 + 1); have kf2 := kf (nc * 4 + 2); have kf3 := kf (nc * 4 + 3); have HKO := Lib.hid ko; have HS10 := Lib.hid hs10; have HG10 := Lib.hid hg10; clear kf ko hs10 hg10))
                  have HG2 := HG.out
                  have HG3 := HGG.out
                  simp only [Bls.len] at HG2 HG3
                  go_roundg (r.len + 1)
                  case measure => omega
                  case rel =>
                    have hcan : CA.length = nc := HLZ.out
                    have hrwb := HRW3.out rw0 rfl
                    have hTL : T.data.toList = pl := HTl.out
                    have hX : X = ⟨(ancB CA (Anc.anchor pl)).toArray⟩ := ByteArray.ext (Array.toList_inj.1 (by
                      rw [HX8.out]
                      have h1 : F2.data.toList = Anc.anchor pl := by rw [HF2.out, ← hTL]
                      rw [h1] at HJ HTF ⊢
                      exact (anc_of CA (Anc.anchor pl) mm hm1 HJ.out HTF.out).symm))
                    have hen : ent CA l pl = ⟨l, F1, T, X⟩ := by unfold ent; rw [HF1.out, hX, HTT.out]
                    have hcc : cont (A.app (.cons a l t m k .nil)) = CA ++ [⟨l, F1, T, X⟩] := by rw [HM.out, hen]
                    have hlen2 : (CA ++ [(⟨l, F1, T, X⟩ : Ent)]).length = nc + 1 := by rw [List.length_append, hcan]; rfl
                    have hb11 := (HB8.out.grown hg8 (by have := HB8.out.size; omega) (fun k hk => by injection hk with hk; omega)).grown HG10.out (by have := HB8.out.size; omega) (fun k hk => by injection hk with hk; omega)
                    have hr0 : w.heap.size ≤ rw0 := by omega
                    have hS : taken (CA ++ [⟨l, F1, T, X⟩]) = fun t => taken CA t || (X.data.toList == t) := funext fun t => taken_snoc _ _ _
                    have hC : (fun p => cnt (CA ++ [(⟨l, F1, T, X⟩ : Ent)]) p (CA ++ [(⟨l, F1, T, X⟩ : Ent)]).length) = fun t => if t = P then x + 1 else fC t := funext fun t => by
                      rw [cnt_snoc, ← HFC.out, hcan]
                      show cnt CA t nc + (if par CA l nc = t then 1 else 0) = if t = P then x + 1 else cnt CA t nc
                      by_cases e : t = P
                      · rw [if_pos e, if_pos (by rw [e]; exact HP.out.symm), e, ← HX.out]
                      · rw [if_neg e, if_neg (fun h => e (by rw [← h]; exact HP.out.symm))]; rfl
                    refine ⟨A.app (.cons a l t m k .nil), r, by rw [Bls.app_assoc]; exact HAR.out, by rw [HL.out]; omega, by omega, by rw [HL.out]; go_num, by rw [hcc]; exact HKO.out, by rw [hcc, ← hen]; exact HOK2.out, ?_, ?_, ?_, by rw [HL.out]; exact HT.out⟩
                    · rw [hcc, hlen2, hS]
                      exact (((HS10.out.put (a := ⟨rw0, _, none⟩) (show w.heap.size ≠ rw0 by omega) _).put (a := ⟨rw0, _, none⟩) (show w.heap.size ≠ rw0 by omega) _).put (a := ⟨rw0, _, none⟩) (show w.heap.size ≠ rw0 by omega) _).put (a := ⟨rw0, _, none⟩) (show w.heap.size ≠ rw0 by omega) _
                    · rw [hcc, hlen2, ← hlen2, hC, hlen2]
                      have h1 := (HC8.out.grown hg8 (fun e => by injection e with e; omega)).grown HG10.out (fun e => by injection e with e; omega)
                      exact (((h1.put (a := ⟨rw0, _, none⟩) (show w.heap.size + 1 ≠ rw0 by omega) _).put (a := ⟨rw0, _, none⟩) (show w.heap.size + 1 ≠ rw0 by omega) _).put (a := ⟨rw0, _, none⟩) (show w.heap.size + 1 ≠ rw0 by omega) _).put (a := ⟨rw0, _, none⟩) (show w.heap.size + 1 ≠ rw0 by omega) _
                    · exact (((hb11.setCell (p := ⟨rw0, _, none⟩) hr0 _).setCell (p := ⟨rw0, _, none⟩) hr0 _).setCell (p := ⟨rw0, _, none⟩) hr0 _).setCell (p := ⟨rw0, _, none⟩) hr0 _
        · have b1 : (a != 1) = true := by simpa using ha
          rw [if_neg ha] at HM
          have HO := Lib.hid (hown.below hnew)
          have HS := Lib.hid (hset.below hnew)
          have HC := Lib.hid (hcnt.below hnew)
          have HB := Lib.hid (hb.trans (hnew.mono hsb))
          clear ha hown hset hcnt hg hi1 hT hl hr hk hm hnew
          go_wp2_with fail
          have HG2 := HG.out
          have HG3 := HGG.out
          simp only [Bls.len] at HG2 HG3
          go_roundg (r.len + 1)
          case measure => omega
          case rel => exact ⟨A.app (.cons a l t m k .nil), r, by rw [Bls.app_assoc]; exact HAR.out, by rw [HL.out]; omega, by omega, by rw [HL.out]; go_num, by rw [HM.out]; exact HO.out, by rw [HM.out]; exact hok, by rw [HM.out]; exact HS.out, by rw [HM.out]; exact HC.out, HB.out, by rw [HL.out]; exact HT.out⟩
end Go.Proofs.YtibmemaciahofaaDoor
