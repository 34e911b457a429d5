/-
  Rows of rows of texts in memory. Conditions: those typed in each theorem.
  The law about tables. Condition: the library's MaxLen holds a number.
-/
import Derived.Test.YthieinfonomeeaaGreatDoorTac
import Derived.Test.YthieinfonomeeaaGreatDoorLac
import Derived.Test.YthieinfonomeeaaGreatDoorAbb
import Derived.Test.YthieinfonomeeaaGreatDoorTab

namespace Go.Proofs.YthieinfonomeeaaGreatDoor
open Go.RowKit Doc Tit Inl Blk
set_option linter.unusedVariables false

/-- the cells of a row of rows of texts -/
def WEnc (q : Nat → Prop) (w : World) : List (List ByteArray) → List Value → Prop
  | [], xs => xs = []
  | r :: R, xs => ∃ v zs, xs = v :: zs ∧ txS.sl q w v r ∧ WEnc q w R zs
theorem WEnc.on {q q' : Nat → Prop} {w w' : World} (hq : Kept q q' w w') : ∀ {L : List (List ByteArray)} {xs : List Value}, WEnc q w L xs → WEnc q' w' L xs
  | [], xs, h => h
  | r :: R, xs, ⟨v, zs, h1, h2, h3⟩ => ⟨v, zs, h1, txS.sl_on h2 hq, WEnc.on hq h3⟩
theorem WEnc.app {q : Nat → Prop} {w : World} : ∀ {A B : List (List ByteArray)} {xs ys : List Value}, WEnc q w A xs → WEnc q w B ys → WEnc q w (A ++ B) (xs ++ ys)
  | [], B, xs, ys, h, k => by
    have h : xs = [] := h
    subst h; exact k
  | r :: R, B, xs, ys, ⟨v, zs, h1, h2, h3⟩, k => by subst h1; exact ⟨v, zs ++ ys, rfl, h2, WEnc.app h3 k⟩
theorem WEnc.length {q : Nat → Prop} {w : World} : ∀ {A : List (List ByteArray)} {xs : List Value}, WEnc q w A xs → xs.length = A.length * 1
  | [], xs, h => by
    have h : xs = [] := h
    subst h; rfl
  | r :: R, xs, ⟨v, zs, h1, h2, h3⟩ => by subst h1; rw [List.length_cons, WEnc.length h3, List.length_cons]; omega
theorem WEnc.ones {q : Nat → Prop} {w : World} : ∀ {A : List (List ByteArray)} {xs : List Value}, WEnc q w A xs → ∀ u ∈ xs, u.oneCell' = true
  | [], xs, h, u, hu => by
    have h : xs = [] := h
    subst h; cases hu
  | r :: R, xs, ⟨v, zs, h1, h2, h3⟩, u, hu => by
    subst h1
    rcases List.mem_cons.1 hu with rfl | hu
    · exact Sl.one h2
    · exact WEnc.ones h3 u hu
def wtS : Shp (List (List ByteArray)) where
  len := List.length
  app := fun a b => a ++ b
  sz := 1
  enc := WEnc
  nil := []
  enc_nil := fun _ _ => rfl
  len_nil := rfl
  nil_of := fun L h => List.length_eq_zero_iff.1 h
  on := fun h => WEnc.on h
  join := WEnc.app
  length := WEnc.length
  ones := WEnc.ones
  len_app := fun a b => List.length_append
theorem tyW : Typ Tryz.prog 46 34 wtS.sz 24 := Typ.mk' (z := .slice none 0 0) Tryz.underlying46 (by kernel_rfl) rfl (by decide)
theorem src_wt {q : Nat → Prop} {w : World} {v : Value} {r : List ByteArray} {ty : TypeId} (h : txS.sl q w v r) : wtS.src q (w.alloc (.cells #[v] ty)) (.slice (some ⟨w.heap.size, 0, none⟩) 1 1) [r] :=
  ⟨_, Src.new w ty _ 1 1, v, [], rfl, txS.sl_on h (Kept.alloc _), rfl⟩
/-- the first row, and where the rest begins -/
theorem WEnc.head {q : Nat → Prop} {w : World} {b o i : Nat} {r : List ByteArray} {R : List (List ByteArray)} {ys : List Value} (hA : At w b o ys) (hE : WEnc q w (r :: R) (ys.drop (i * 1))) :
    ∃ p c, w.cell? ⟨b, o + i, none⟩ = some (.slice p r.length c) ∧ txS.sl q w (.slice p r.length c) r ∧ WEnc q w R (ys.drop ((i + 1) * 1)) := by
  obtain ⟨v, zs, h1, h2, h3⟩ := hE
  obtain ⟨p, c, rfl⟩ := Sl.form h2
  rw [Nat.mul_one] at h1
  have e0 : ys[i]? = some (.slice p (txS.len r) c) := by
    have h4 : (ys.drop i)[0]? = some (.slice p (txS.len r) c) := by rw [h1]; rfl
    rw [List.getElem?_drop] at h4
    exact h4
  have e1 : ys.drop ((i + 1) * 1) = zs := by
    rw [Nat.mul_one, ← List.drop_drop, h1]; rfl
  exact ⟨p, c, hA _ _ e0, h2, by rw [e1]; exact h3⟩
/-- a text of a row -/
theorem tx_at {q : Nat → Prop} {w : World} {b o i : Nat} {t : ByteArray} {r : List ByteArray} {ys : List Value} (hA : At w b o ys) (hE : txS.enc q w (t :: r) (ys.drop (i * 1))) :
    w.cell? ⟨b, o + i, none⟩ = some (.string t) ∧ txS.enc q w r (ys.drop ((i + 1) * 1)) := by
  have hE : ys.drop (i * 1) = tcs (t :: r) := hE
  rw [Nat.mul_one] at hE
  have e0 : ys[i]? = some (.string t) := by
    have h4 : (ys.drop i)[0]? = some (.string t) := by rw [hE]; rfl
    rw [List.getElem?_drop] at h4
    exact h4
  refine ⟨hA _ _ e0, ?_⟩
  show ys.drop ((i + 1) * 1) = tcs r
  rw [Nat.mul_one, ← List.drop_drop, hE]
  rfl
def threeB : List ByteArray := [⟨#[97]⟩, ⟨#[98, 32, 99]⟩, ⟨#[49]⟩]
theorem three_mem {t : ByteArray} (h : t ∈ threeB) : t.data.toList ∈ threeL ∧ t.size ≤ 3 := by
  simp only [threeB, List.mem_cons, List.not_mem_nil, or_false] at h
  rcases h with rfl | rfl | rfl
  all_goals exact ⟨by decide, by decide⟩
/-- rows of the law -/
def RowsB (R : List (List ByteArray)) : Prop := ∀ r ∈ R, r ≠ [] ∧ r.length ≤ 4 ∧ ∀ c ∈ r, c ∈ threeB
theorem RowsB.three {R : List (List ByteArray)} (h : RowsB R) : Rows3 (R.map bl) := by
  intro y hy
  obtain ⟨r, hr, rfl⟩ := List.mem_map.1 hy
  obtain ⟨h0, _, h1⟩ := h r hr
  refine ⟨fun e => h0 (List.map_eq_nil_iff.1 e), fun c hc => ?_⟩
  obtain ⟨t, ht, rfl⟩ := List.mem_map.1 hc
  exact (three_mem (h1 t ht)).1
theorem row_join {r : List ByteArray} (h : r.length ≤ 4) (h1 : ∀ c ∈ r, c ∈ threeB) : (joinS (bl r)).length ≤ 28 := by
  have h2 := joinS_size (bl r) fun c hc => by
    obtain ⟨t, ht, rfl⟩ := List.mem_map.1 hc
    exact (three_mem (h1 t ht)).1
  rw [bl_length] at h2
  omega
end Go.Proofs.YthieinfonomeeaaGreatDoor

namespace Go.Proofs.YthieinfonomeeaaGreatDoor
open Go.RowKit Doc Tit Inl Blk
set_option linter.unusedVariables false
attribute [local go_sem ↓] Go.wp_at_zero Go.wp_at_succ

theorem own_step_in {α : Type} {S : Shp α} {e : TypeId} {g B : Nat} {w w' : World} {v : Value} {L : α} (h : S.own e (fun _ => False) B w v L) (s : TpS g w w') (hg : g < B) : S.own e (fun _ => False) B w' v L := own_step h s.st hg
set_option maxRecDepth 20000 in
set_option maxHeartbeats 8000000 in
theorem law_tables (a : Option Addr) (len cap : Nat) (zs : List Int) (w : World) (hz : IsInts w a len cap zs) (hm : MX w) : Calls Tryz.prog 9 #[.slice a len cap] w fun e w' => e = .returned (.bool true) ∧ Below w.heap.size w w' := by
  have HM := Lib.hid hm
  have hKN := fun (W : World) (hb : Below w.heap.size w W) => bknown_any W (HM.out.below hb)
  have HKN := Lib.hid hKN
  have hT := newT a len cap zs w hz
  clear hKN hm hz
  go_enter Tryz.func9, Tryz.ntmps9
  go_wp2_with fail
  refine hT.mono ?_
  rintro e V ⟨g, rfl, hg, hb1, tp⟩
  have hgV := tp.lt
  have hts := TpS.refl tp
  have HB1 := Lib.hid hb1
  clear hT tp hb1
  go_wp2_with fail
  go_loopg [4, 5, 6] 5 (fun g' s4 s5 s6 wr => ∃ (T : ByteArray) (i : Nat) (R : List (List ByteArray)), s4 = .string T ∧ wtS.own 34 (fun _ => False) V.heap.size wr s5 R ∧ s6 = .int .i64 i ∧ T.data.toList = [123, 124, 10] ++ txtT (R.map bl) ∧ R.length = i ∧ T.size ≤ 3 + 40 * i ∧ i < 5 ∧ 5 ≤ i + g' ∧ RowsB R ∧ TpS g V wr)
  case atStart => exact ⟨⟨#[123, 124, 10]⟩, 0, [], rfl, Shp.own.nil, rfl, rfl, rfl, by decide, by decide, by decide, (fun r hr => by cases hr), hts⟩
  case round =>
    obtain ⟨T, i, R, rfl, hown, rfl, hTd, hRl, hTz, hi, hig, hR3, ts⟩ := hrel
    have HTD := Lib.hid hTd
    have HRL := Lib.hid hRl
    have HR3 := Lib.hid hR3
    have HOWN := Lib.hid hown
    clear hTd hRl hR3 hts hown
    cases gk with
    | zero => omega
    | succ gk =>
      have hN := tNext g 5 V wr (by decide) (by decide) ts
      clear ts
      go_wp2_with fail
      refine hN.mono ?_
      rintro e W1 ⟨r, rfl, hr, ts, st⟩
      have HO1 := Lib.hid (own_step HOWN.out st hgV)
      have hV1 := ts.size
      clear st hN HOWN
      by_cases hir : i < r
      · have g1 : decide ((i : Int) < (r : Int)) = true := decide_eq_true (by omega)
        have g1' : decide (i < r) = true := decide_eq_true hir
        have ts0 := TpS.refl ts.tp
        have HTS := Lib.hid ts
        have hgW : g < W1.heap.size := by omega
        obtain ⟨wo, hwo⟩ : ∃ wo, wo = wr := ⟨_, rfl⟩
        subst hwo
        obtain ⟨gO, hgO⟩ : ∃ gO, gO = gk := ⟨_, rfl⟩
        subst hgO
        clear ts
        go_wp2_with fail
        go_loopg [7, 8] 5 (fun g' s7 s8 wr => ∃ (j : Nat) (ro : List ByteArray), txS.own 9 (fun _ => False) W1.heap.size wr s7 ro ∧ s8 = .int .i64 j ∧ ro.length = j ∧ j < 5 ∧ 5 ≤ j + g' ∧ (∀ c ∈ ro, c ∈ threeB) ∧ TpS g W1 wr)
        case atStart => exact ⟨0, [], Shp.own.nil, rfl, rfl, by decide, by decide, (fun c hc => by cases hc), ts0⟩
        case round =>
          obtain ⟨j, ro, hown, rfl, hrl, hj, hjg, hmem, ts⟩ := hrel
          have HRO := Lib.hid hown
          have HRLN := Lib.hid hrl
          have HMEM := Lib.hid hmem
          clear hown hrl hmem ts0
          cases gk with
          | zero => omega
          | succ gk =>
            have hN := tNext g 4 W1 wr (by decide) (by decide) ts
            clear ts
            go_wp2_with fail
            refine hN.mono ?_
            rintro e w2 ⟨q, rfl, hq, ts, st⟩
            have hO2 := own_step HRO.out st hgW
            have HO2 := Lib.hid hO2
            clear st hN hO2 HRO
            by_cases hjq : j ≤ q
            · have g2 : decide ((j : Int) ≤ (q : Int)) = true := decide_eq_true (by omega)
              have g2' : decide (j ≤ q) = true := decide_eq_true hjq
              have hO := tOfMem g threeB W1 w2 9 _ rfl (by decide) (by decide) ts
              clear ts
              go_wp2_with fail
              refine hO.mono ?_
              rintro e w3 ⟨t, rfl, ht, ts, st⟩
              have hO3 := own_step HO2.out st hgW
              have hsz3 := ts.size
              have hoA := hO3.below (below_new0 w3 (.cells #[.string t] 9))
              have HOA := Lib.hid hoA
              have hzW : W1.heap.size ≤ (w3.alloc (.cells #[.string t] 9)).heap.size := by rw [World.size_alloc]; omega
              have hlen2 : txS.len ro = j := HRLN.out
              have HLEN := Lib.hid hlen2
              have HTS3 := Lib.hid (ts.new (.cells #[.string t] 9))
              have hMn : ∀ p ∈ ro ++ [t], p ∈ threeB := fun p hp => by
                rcases List.mem_append.1 hp with hp | hp
                · exact HMEM.out p hp
                · have : p = t := by simpa using hp
                  subst this; exact ht
              have HMN := Lib.hid hMn
              clear hO st hO3 hoA hlen2 ts hMn ht HO2
              go_wp2_with (at_builtin; go_must (refine append_shp txS tyT _ rfl _ _ rfl HOA.out rfl (src_tx (s := t)) rfl (by rw [HLEN.out]; show (j + 1) * 17 ≤ _; omega) hzW ?_); intro v' w4 O4 hgrow hbel hkd)
              have hlt := HOA.out.lt
              have ts4 : TpS g W1 w4 := HTS3.out.grown hgrow (fun k hk => ⟨(hlt k hk).1, by have := (hlt k hk).1; omega⟩)
              clear hgrow hbel hkd hlt
              go_roundg gk
              case measure => omega
              case rel => exact ⟨j + 1, ro ++ [t], O4, by go_num, by rw [List.length_append, HRLN.out]; rfl, by omega, by omega, HMN.out, ts4⟩
            · have g2 : decide ((j : Int) ≤ (q : Int)) = false := decide_eq_false (by omega)
              have g2' : decide (j ≤ q) = false := decide_eq_false hjq
              have hO1 := own_step_in HO1.out ts hgV
              have hlt1 := hO1.lt
              have hltR := HO2.out.lt
              have hz12 := ts.size
              have hltO := HO1.out.lt
              have hsl : txS.sl (Shp.kind (fun _ => False) V.heap.size u5) w2 u7 ro := by
                have h1 := HO2.out.sl
                exact txS.sl_on h1 (Kept.mono fun k hk _ => by
                  rcases hk with h | h
                  · exact h.elim
                  · exact ⟨.inr (by omega), fun e => by have := (hltO k e).2; omega⟩)
              obtain ⟨p7, c7, hv7⟩ := HO2.out.form
              replace hv7 : u7 = .slice p7 ro.length c7 := hv7
              subst hv7
              have hoA := hO1.below (below_new0 w2 (.cells #[.slice p7 ro.length c7] 34))
              have HOA := Lib.hid hoA
              have HSL := Lib.hid hsl
              have hzW : V.heap.size ≤ (w2.alloc (.cells #[.slice p7 ro.length c7] 34)).heap.size := by rw [World.size_alloc]; omega
              have hlen2 : wtS.len R = i := HRL.out
              have HLEN := Lib.hid hlen2
              have hts2 := HTS.out.trans ts
              have HTS2 := Lib.hid (hts2.new (.cells #[.slice p7 ro.length c7] 34))
              have hroz : ro.length ≤ 4 := by rw [HRLN.out]; omega
              have hro0 : ro ≠ [] := fun e => by have := HRLN.out; rw [e] at this; simp at this; omega
              have hjs := row_join hroz HMEM.out
              have HJS := Lib.hid hjs
              clear hO1 hlt1 hltR hltO hsl hoA hlen2 hts2 ts HO1 HTS hjs
              go_wp2_with (at_builtin; go_must (refine append_shp wtS tyW _ rfl _ _ rfl HOA.out rfl (src_wt (r := ro) HSL.out) rfl (by rw [HLEN.out]; show (i + 1) * 25 ≤ _; omega) hzW ?_); intro v' w4 O4 hgrow hbel hkd)
              have hlt := HOA.out.lt
              have ts4 : TpS g V w4 := HTS2.out.grown hgrow (fun k hk => ⟨(hlt k hk).1, by have := (hlt k hk).1; omega⟩)
              have hsl4 := SL.of_sl (txS.sl_on (txS.sl_on HSL.out (Kept.alloc _)) hkd)
              have h5 : ∃ b o, p7 = some ⟨b, o, none⟩ ∧ b < w4.heap.size ∧ ∀ k x, ro[k]? = some x → w4.cell? ⟨b, o + k, none⟩ = some (.string x) := by
                rcases hsl4.2.2 with h6 | h6
                · exact absurd h6 hro0
                · exact h6
              obtain ⟨b, o, rfl, hbl, hcc⟩ := h5
              have hcap7 := hsl4.1
              have esep : (⟨#[32, 124, 124, 32]⟩ : ByteArray).data.toList = [32, 124, 124, 32] := rfl
              have hJ := Tryz.strings_Join b o c7 ro ⟨#[32, 124, 124, 32]⟩ w4 hcc hbl (by omega) hcap7 (by rw [esep]; show (joinS (bl ro)).length ≤ _; have := HJS.out; omega)
              rw [esep] at hJ
              obtain ⟨X, hX⟩ : ∃ X : ByteArray, ⟨(Lib.join (ro.map (·.data.toList)) [32, 124, 124, 32]).toArray⟩ = X := ⟨_, rfl⟩
              have hXd : X.data.toList = joinS (bl ro) := by rw [← hX]; rfl
              have hXz : X.size ≤ 28 := by have h1 := HJS.out; rw [← hXd] at h1; simpa using h1
              rw [hX] at hJ
              have hTn : (T ++ (⟨#[124, 45, 10, 124]⟩ : ByteArray) ++ X ++ (⟨#[10]⟩ : ByteArray)).data.toList = [123, 124, 10] ++ txtT ((R ++ [ro]).map bl) := by
                rw [app_data, app_data, app_data, HTD.out, hXd, List.map_append]
                show _ = _ ++ txtT (R.map bl ++ [bl ro])
                rw [txtT_snoc]
                simp
              have hRn : RowsB (R ++ [ro]) := fun y hy => by
                rcases List.mem_append.1 hy with hy | hy
                · exact HR3.out y hy
                · have : y = ro := by simpa using hy
                  subst this; exact ⟨hro0, hroz, HMEM.out⟩
              have HJ := Lib.hid hJ
              have HTN := Lib.hid hTn
              have HRN := Lib.hid hRn
              have HO4 := Lib.hid O4
              have HTS4 := Lib.hid ts4
              have hov1 : ¬ (9223372036854775807 < T.size + (⟨#[124, 45, 10, 124]⟩ : ByteArray).size) := by show ¬ (9223372036854775807 < T.size + 4); omega
              have hov2 : ¬ (9223372036854775807 < (T ++ (⟨#[124, 45, 10, 124]⟩ : ByteArray)).size + X.size) := by rw [ByteArray.size_append]; show ¬ (9223372036854775807 < T.size + 4 + X.size); omega
              have hov3 : ¬ (9223372036854775807 < (T ++ (⟨#[124, 45, 10, 124]⟩ : ByteArray) ++ X).size + (⟨#[10]⟩ : ByteArray).size) := by rw [ByteArray.size_append, ByteArray.size_append]; show ¬ (9223372036854775807 < T.size + 4 + X.size + 1); omega
              clear hgrow hbel hkd hlt hsl4 hcc hX hXd hTn hRn hJ O4 ts4 HSL HOA HTS2
              go_wp2_with fail
              refine HJ.out.mono ?_
              rintro e w5 ⟨rfl, hb5⟩
              have O5 := HO4.out.below hb5
              have ts5 := HTS4.out.below hb5
              clear hb5 HO4 HTS4
              go_wp2_with fail
              go_roundg gO
              case measure => omega
              case rel => exact ⟨_, i + 1, R ++ [ro], rfl, O5, by go_num, HTN.out, by rw [List.length_append, HRL.out]; rfl, by simp only [ByteArray.size_append]; show T.size + 4 + X.size + 1 ≤ _; omega, by omega, by omega, HRN.out, ts5⟩
      · have g1 : decide ((i : Int) < (r : Int)) = false := decide_eq_false (by omega)
        have g1' : decide (i < r) = false := decide_eq_false hir
        have hb2 := HB1.out.trans (ts.st.below.mono hg)
        have HB2 := Lib.hid hb2
        have hm2 := HM.out.below hb2
        have hZd : (T ++ (⟨#[124, 125]⟩ : ByteArray)).data.toList = [123, 124, 10] ++ txtT (R.map bl) ++ [124, 125] := by rw [app_data, HTD.out]
        have hbk := blocks_tab HR3.out.three
        rw [← hZd] at hbk
        have hP := pbparse_any (T ++ (⟨#[124, 125]⟩ : ByteArray)) W1 (by rw [ByteArray.size_append]; show T.size + 2 ≤ _; omega) hm2
        rw [hbk] at hP
        have hl1 : (blk 7 0 [] .nil (tabR (R.map bl))).len = 1 := rfl
        rw [hl1] at hP
        have hov : ¬ (9223372036854775807 < T.size + (⟨#[124, 125]⟩ : ByteArray).size) := by show ¬ (9223372036854775807 < T.size + 2); omega
        obtain ⟨pw, cw, hvw⟩ := HO1.out.form
        replace hvw : u5 = .slice pw R.length cw := hvw
        have hRi := HRL.out
        rw [hRi] at hvw
        have hslw := HO1.out.sl
        subst hvw
        have HP := Lib.hid hP
        have HSLW := Lib.hid hslw
        have HRI := Lib.hid hRi
        clear hP hm2 hbk hZd hl1 ts hir HO1 hslw hb2 HTD HRL hRi
        go_wp2_with fail
        refine HP.out.mono ?_
        rintro e W4 ⟨p, c, rfl, hsl, hb4⟩
        obtain ⟨b, o, ip, ic, kp, kc, rfl, -, hnc, hcm, hbl, c0, c1, c2, c3, c4, -, hk, -⟩ := bls_head hsl
        rw [tabR_len, List.length_map, HRI.out] at c4 hk
        have hW := wtS.sl_on HSLW.out (Kept.below hb4)
        obtain ⟨hFW, hdW, hncw, hcw⟩ := Shp.rest_start hW
        clear hdW
        obtain ⟨hFK, hdK, hnck, hck⟩ := Shp.rest_start hk
        clear hdK
        have HFW := Lib.hid hFW
        have HFK := Lib.hid hFK
        have HB4 := Lib.hid (below_then HB2.out hb4)
        clear hsl hk hW hFW hFK hb4 HP HSLW HB2 c1 c2 c3
        go_wp2_with fail
        obtain ⟨wo, hwo⟩ : ∃ wo, wo = wr := ⟨_, rfl⟩
        subst hwo
        go_loopg [11] (i + 1) (fun g s11 wr => ∃ (A S : List (List ByteArray)), A ++ S = R ∧ s11 = .int .i64 A.length ∧ S.length < g ∧ wtS.rest (fun k => (False ∨ V.heap.size ≤ k)) W4 pw A.length S ∧ blsS.rest (fun k => W1.heap.size ≤ k) W4 kp A.length (tabR (S.map bl)) ∧ Below W4.heap.size W4 wr)
        case atStart => exact ⟨[], R, rfl, rfl, by rw [HRI.out]; omega, HFW.out, HFK.out, Below.refl _ _⟩
        case round =>
          obtain ⟨A, S, hAS, rfl, hg3, hRW, hRK, hb5⟩ := hrel
          have hAl := congrArg List.length hAS
          rw [List.length_append, HRI.out] at hAl
          have d0 := (hb5.cell (p := ⟨b, o, none⟩) hbl).trans c0
          have d4 := (hb5.cell (p := ⟨b, o + 4, none⟩) hbl).trans c4
          have hbl5 := Nat.lt_of_lt_of_le hbl hb5.size
          have HAS := Lib.hid hAS
          have HB5 := Lib.hid hb5
          generalize hn : A.length = n at *
          have HNN := Lib.hid hn
          clear hAS hn
          cases S with
          | nil =>
            have g3 : decide (n < i) = false := decide_eq_false (by rw [List.length_nil] at hAl; omega)
            have hbw := below_then HB4.out HB5.out
            clear hRW hRK hAl hb5
            go_wp2_with fail
            refine (HKN.out _ hbw).mono ?_
            rintro e w7 ⟨rfl, hb7⟩
            go_wp2_with fail
            go_ret
            exact ⟨rfl, below_then hbw hb7⟩
          | cons ro S =>
            rw [List.length_cons] at hAl
            have hni : n < i := by omega
            have g3 : decide (n < i) = true := decide_eq_true hni
            rcases hRW with hRW | ⟨bw, ow, yw, rfl, hqw, hblw, hAw, hEw⟩
            · cases hRW
            rcases hRK with hRK | ⟨bk, ok, yk, rfl, hqk, hblk, hAk, hEk⟩
            · cases hRK
            obtain ⟨pr, cr, f0, hslr, hEw2⟩ := WEnc.head hAw hEw
            obtain ⟨ip2, ic2, kp2, kc2, e0, e1, e2, e3, e4, -, hk2, hEk2⟩ := BEnc.head hAk hEk
            have hTW : wtS.rest (fun k => (False ∨ V.heap.size ≤ k)) W4 (some ⟨bw, ow, none⟩) (n + 1) S := .inr ⟨bw, ow, yw, rfl, hqw, hblw, hAw, hEw2⟩
            have hTK : blsS.rest (fun k => W1.heap.size ≤ k) W4 (some ⟨bk, ok, none⟩) (n + 1) (tabR (S.map bl)) := .inr ⟨bk, ok, yk, rfl, hqk, hblk, hAk, hEk2⟩
            rw [cellR_len, bl_length] at e4 hk2
            obtain ⟨hFr, hdr, hncr, hcr⟩ := Shp.rest_start hslr
            clear hdr
            obtain ⟨hFc, hdc, hncc, hcc⟩ := Shp.rest_start hk2
            clear hdc
            have x0 := (hb5.cell (p := ⟨bw, ow + n, none⟩) hblw).trans f0
            have x4 := (hb5.cell (p := ⟨bk, ok + n * 5 + 4, none⟩) hblk).trans e4
            have hblw5 := Nat.lt_of_lt_of_le hblw hb5.size
            have hblk5 := Nat.lt_of_lt_of_le hblk hb5.size
            obtain ⟨m, hm⟩ : ∃ m, m = ro.length := ⟨_, rfl⟩
            have hm0 : ro.length = m := hm.symm
            rw [hm0] at x0 x4 hncr hncc f0 e4
            have HM0 := Lib.hid hm0
            have HTW := Lib.hid hTW
            have HTK := Lib.hid hTK
            have HFR := Lib.hid hFr
            have HFC := Lib.hid hFc
            have HG3 := Lib.hid hg3
            obtain ⟨gO, hgO⟩ : ∃ gO, gO = gk := ⟨_, rfl⟩
            subst hgO
            obtain ⟨wp, hwp⟩ : ∃ wp, wp = wr := ⟨_, rfl⟩
            subst hwp
            clear hEw hEk hEw2 hEk2 hAw hAk hTW hTK hFr hFc hslr hk2 e0 e1 e2 e3 hm hm0 hqw hqk hg3
            go_wp2_with fail
            go_loopg [13] (m + 1) (fun g s13 wr => ∃ (A' S' : List ByteArray), A' ++ S' = ro ∧ s13 = .int .i64 A'.length ∧ S'.length < g ∧ txS.rest (fun k => (False ∨ V.heap.size ≤ k)) W4 pr A'.length S' ∧ blsS.rest (fun k => W1.heap.size ≤ k) W4 kp2 A'.length (cellR (bl S')) ∧ Below W4.heap.size W4 wr)
            case atStart => exact ⟨[], ro, rfl, rfl, by rw [HM0.out]; omega, HFR.out, HFC.out, HB5.out⟩
            case round =>
              obtain ⟨A', S', hAS, rfl, hg4, hRT, hRC, hb6⟩ := hrel
              have hAl' := congrArg List.length hAS
              rw [List.length_append, HM0.out] at hAl'
              have HAS' := Lib.hid hAS
              generalize hn : A'.length = j at *
              have HNJ := Lib.hid hn
              have HB6 := Lib.hid hb6
              clear hAS hn d0 d4 x0 x4 hbl5 hblw5 hblk5
              cases S' with
              | nil =>
                have g4 : decide (j < m) = false := decide_eq_false (by rw [List.length_nil] at hAl'; omega)
                have HG4 := HG3.out
                rw [List.length_cons] at HG4
                clear hRT hRC hb6 hb5
                go_wp2_with fail
                go_roundg (S.length + 1)
                case measure => omega
                case rel =>
                  have hl : (A ++ [ro]).length = n + 1 := by rw [List.length_append, HNN.out]; rfl
                  exact ⟨A ++ [ro], S, by rw [List.append_assoc]; exact HAS.out, by rw [hl]; go_num, by omega, by rw [hl]; exact HTW.out, by rw [hl]; exact HTK.out, HB6.out⟩
              | cons t S' =>
                rw [List.length_cons] at hAl'
                have hjm : j < m := by omega
                have g4 : decide (j < m) = true := decide_eq_true hjm
                rcases hRT with hRT | ⟨bt, ot, yt, rfl, hqt, hblt, hAt, hEt⟩
                · cases hRT
                rcases hRC with hRC | ⟨bc, oc, yc, rfl, hqc, hblc, hAc, hEc⟩
                · cases hRC
                obtain ⟨t0, hEt2⟩ := tx_at hAt hEt
                obtain ⟨ip3, ic3, kp3, kc3, q0, q1, q2, q3, q4, hI3, -, hEc2⟩ := BEnc.head hAc hEc
                have hTT : txS.rest (fun k => (False ∨ V.heap.size ≤ k)) W4 (some ⟨bt, ot, none⟩) (j + 1) S' := .inr ⟨bt, ot, yt, rfl, hqt, hblt, hAt, hEt2⟩
                have hTC : blsS.rest (fun k => W1.heap.size ≤ k) W4 (some ⟨bc, oc, none⟩) (j + 1) (cellR (bl S')) := .inr ⟨bc, oc, yc, rfl, hqc, hblc, hAc, hEc2⟩
                have hpl : (txt t.data.toList).plain = t.data.toList := by simp [txt, el, Ins.plain]
                have htz : t.size ≤ 3 := (three_mem ((HR3.out ro (by rw [← HAS.out]; simp)).2.2 t (by rw [← HAS'.out]; simp))).2
                have hPR := fun x => plainR_any 2 _ (txt t.data.toList) ip3 ic3 (gr wr x) (by show 0 + 0 + 1 < 2; decide) (by show 0 + 0 + 1 ≤ _; decide) (by show t.size + 1 + 0 + 0 ≤ _; omega) (insS.sl_on hI3 (Kept.below (below_then hb6 (gr_below wr x))))
                rw [hpl] at hPR
                have hPR : ∀ x, Calls Tryz.prog 28 #[.slice ip3 1 ic3] (gr wr x) fun e w' => e = .returned (.string t) ∧ Below (gr wr x).heap.size (gr wr x) w' := hPR
                have y0 := (hb6.cell (p := ⟨b, o, none⟩) hbl).trans c0
                have y4 := (hb6.cell (p := ⟨b, o + 4, none⟩) hbl).trans c4
                have z0 := (hb6.cell (p := ⟨bw, ow + n, none⟩) hblw).trans f0
                have z1 := (hb6.cell (p := ⟨bt, ot + j, none⟩) hblt).trans t0
                have z2 := (hb6.cell (p := ⟨bc, oc + j * 5 + 1, none⟩) hblc).trans q1
                have z3 := (hb6.cell (p := ⟨bc, oc + j * 5 + 3, none⟩) hblc).trans q3
                have hl1 : (txt t.data.toList).len = 1 := rfl
                rw [hl1] at z3
                have hz6 := hb6.size
                have l1 : b < wr.heap.size := by omega
                have l2 : bw < wr.heap.size := by omega
                have l3 : bt < wr.heap.size := by omega
                have l4 : bc < wr.heap.size := by omega
                have HTT := Lib.hid hTT
                have HTC := Lib.hid hTC
                have HG4 := Lib.hid hg4
                clear hEt hEt2 hEc hEc2 hAt hAc hTT hTC hI3 q0 q1 q2 q3 q4 t0 hl1 hpl hg4 hb6 hb5
                go_upto_region 26 with fail
                go_cut [123] from 102 to 123 (fun s123 wc => s123 = .bool false ∧ Below wr.heap.size wr wc)
                case first =>
                  clear HTT HTC HG4 HG3 HTW HTK HFR HFC HFW HFK HAS HAS' HNN HNJ
                  refine wp_region_gr (by kernel_rfl) (by kernel_rfl) ?_
                  repeat (go_big_quiet_step ((go_at_call 28; exact gr_call (hPR _))))
                  with_reducible refine wpQuiet_nil ?_
                  intro _ hw'; obtain ⟨w6, hw''⟩ := hw'; subst hw''
                  have B6 := gr_below wr w6
                  go_wp2_with fail
                  go_meet
                  case rel => exact ⟨rfl, B6⟩
                case rest =>
                  obtain ⟨rfl, hbc⟩ := hcut
                  have hb7 := below_then HB6.out hbc
                  have HG5 := HG4.out
                  rw [List.length_cons] at HG5
                  go_wp2_with fail
                  go_roundg (S'.length + 1)
                  case measure => omega
                  case rel =>
                    have hl : (A' ++ [t]).length = j + 1 := by rw [List.length_append, HNJ.out]; rfl
                    exact ⟨A' ++ [t], S', by rw [List.append_assoc]; exact HAS'.out, by rw [hl]; go_num, by omega, by rw [hl]; exact HTT.out, by rw [hl]; exact HTC.out, hb7⟩
end Go.Proofs.YthieinfonomeeaaGreatDoor
