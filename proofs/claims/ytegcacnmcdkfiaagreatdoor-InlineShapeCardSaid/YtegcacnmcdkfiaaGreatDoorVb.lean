/-
  The law InlineMarks: a text between marks of one kind is one element of this kind. Condition: the library's MaxLen holds a number.
-/
import Derived.Test.YtegcacnmcdkfiaaGreatDoorUa
import Derived.Test.YtegcacnmcdkfiaaGreatDoorVa
import Derived.Laws.OwnMore

namespace Go.Proofs.YtegcacnmcdkfiaaGreatDoor
open Go.RowKit Doc Tit Inl
set_option linter.unusedVariables false
attribute [local go_sem ↓] Go.wp_at_zero Go.wp_at_succ

theorem parse_to (T : ByteArray) (L : Ins) (n : Nat) (hT : T.size ≤ 100000) (h : read T.data.toList = L) (hn : L.len = n) (W : World) (hm : MX W) :
    Calls Tryz.prog 14 #[.string T] W fun e w' => ∃ p c, e = .returned (.slice p n c) ∧ insS.sl Any w' (.slice p n c) L ∧ Below W.heap.size W w' := by
  subst hn h
  exact (pparse17_any T W (by omega) hm).mono fun e w' ⟨p, c, h1, h2, h3⟩ => ⟨p, c, h1, sl_any h2, h3⟩
/-- one element with elements within it -/
def mk (k : Int) (L : Ins) : Ins := .cons k ⟨#[]⟩ 0 ⟨#[]⟩ ⟨#[]⟩ L .nil
theorem mk_el (k : Int) (L : Ins) : el k [] L = mk k L := rfl
theorem mk_len (k : Int) (L : Ins) : (mk k L).len = 1 := rfl
theorem mk_size (k : Int) (L : Ins) : (mk k L).size = L.size + 1 := by simp [mk, Ins.size]
abbrev mkCells (k : Int) (v : Value) : Obj := .cells #[.int .i64 k, .string ⟨#[]⟩, .int .i64 0, .string ⟨#[]⟩, .string ⟨#[]⟩, v] 42
abbrev txCells (s : ByteArray) : Obj := .cells #[.int .i64 1, .string s, .int .i64 0, .string ⟨#[]⟩, .string ⟨#[]⟩, .slice none 0 0] 42
theorem mk_sl (w : World) (k : Int) (v : Value) (L : Ins) (h : insS.sl Any w v L) : insS.sl Any (w.alloc (mkCells k v)) (.slice (some ⟨w.heap.size, 0, none⟩) 1 1) (mk k L) :=
  one_sl (Known.made w 42 #[.int .i64 k, .string ⟨#[]⟩, .int .i64 0, .string ⟨#[]⟩, .string ⟨#[]⟩, v]) (sl_below h (below_new0 _ _))
theorem tx_own (q : Nat → Prop) (w : World) (s : ByteArray) : insS.own 42 q w.heap.size (w.alloc (txCells s)) (.slice (some ⟨w.heap.size, 0, none⟩) 1 1) (tx s) :=
  ⟨_, World.ownsRow_lit w _ 1 (Nat.le_refl _) (by decide) rfl, ⟨.slice none 0 0, [], rfl, Sl.empty, rfl⟩⟩
theorem rep_one (c : UInt8) : ∀ n, Lib.repeatL [c] n = List.replicate n c
  | 0 => rfl
  | n + 1 => by
    rw [Lib.repeatL, rep_one c n, List.replicate_succ]
    rfl
set_option maxRecDepth 10000 in
set_option maxHeartbeats 2000000 in
theorem law_marks (s : ByteArray) (n : Int) (w : World) (hm : MX w) : Calls Tryz.prog 11 #[.string s, .int .i64 n] w fun e w' => e = .returned (.bool true) ∧ Below w.heap.size w w' := by
  have hz : s.data.toList.length = s.size := by simp
  have HK := Lib.hid (known_then w hm)
  have HM := Lib.hid hm
  clear hm
  by_cases hs : s.size ≤ 300
  case neg =>
    have g0 : decide (300 < (s.size : Int)) = true := by simp; omega
    go_enter Tryz.func11, Tryz.ntmps11
    go_wp2_with fail
    refine (HK.out _ (Below.refl _ _)).mono ?_
    rintro e w6 ⟨rfl, hb6⟩
    go_wp2_with fail
    go_ret
    exact ⟨rfl, hb6⟩
  have g0 : decide (300 < (s.size : Int)) = false := by simp; omega
  cases he : s.toList.isEmpty with
  | true =>
    go_enter Tryz.func11, Tryz.ntmps11
    go_wp2_with fail
    refine (HK.out _ (Below.refl _ _)).mono ?_
    rintro e w6 ⟨rfl, hb6⟩
    go_wp2_with fail
    go_ret
    exact ⟨rfl, hb6⟩
  | false =>
  have hC := containsAny_any s ⟨#[91, 60, 38, 39]⟩ w (by omega) (by decide) (by decide) hi_special
  have e0 : (⟨#[91, 60, 38, 39]⟩ : ByteArray).data.toList = [91, 60, 38, 39] := rfl
  rw [e0] at hC
  cases hca : Lib.containsAny s.data.toList [91, 60, 38, 39] with
  | true =>
    rw [hca] at hC
    have HC := Lib.hid hC
    clear hC hca hz e0
    go_enter Tryz.func11, Tryz.ntmps11
    go_wp2_with fail
    refine HC.out.mono ?_
    rintro e w1 ⟨rfl, hb1⟩
    go_wp2_with fail
    refine (HK.out _ hb1).mono ?_
    rintro e w6 ⟨rfl, hb6⟩
    go_wp2_with fail
    go_ret
    exact ⟨rfl, hb6⟩
  | false =>
    rw [hca] at hC
    have hpl := pl_of hca
    have hne : s.data.toList ≠ [] := fun e => by rw [Lib.toList_data, e] at he; cases he
    obtain ⟨m, hm15, hmk⟩ : ∃ m : Nat, m ≤ 15 ∧ bits BinOp.and IntKind.i64 n 15 = (m : Int) := by
      have h1 := mask_i64 4 (by decide) n 15 (by decide)
      have h2 := Int.emod_nonneg n (show (16 : Int) ≠ 0 by decide)
      have h3 := Int.emod_lt_of_pos n (show (0 : Int) < 16 by decide)
      refine ⟨(n % 16).toNat, by omega, ?_⟩
      rw [h1]
      show n % 16 = _
      omega
    obtain ⟨Q, hQ⟩ : ∃ Q : ByteArray, Q = ⟨(List.replicate (m + 6) 39).toArray⟩ := ⟨_, rfl⟩
    have hQs : Q.size = m + 6 := by rw [hQ]; simp [ByteArray.size]
    have hQl : Q.data.toList = List.replicate (m + 1 + 5) 39 := by rw [hQ]
    have hR : ∀ W, Calls Tryz.prog 32 #[.string ⟨#[39]⟩, .int .i64 (6 + (m : Int))] W fun e w' => e = .returned (.string Q) ∧ Below W.heap.size W w' := fun W => by
      have h1 := Tryz.strings_Repeat ⟨#[39]⟩ (m + 6) W (by omega) (by show 1 * (m + 6) ≤ _; omega)
      have e1 : (⟨#[39]⟩ : ByteArray).data.toList = [39] := rfl
      rw [e1, rep_one, ← hQ] at h1
      have e2 : ((m + 6 : Nat) : Int) = 6 + (m : Int) := by omega
      rwa [e2] at h1
    have hQ5 : (Q.extract 5 Q.size).data.toList = List.replicate (m + 1) 39 := by
      rw [Lib.extract_to_end, hQl]
      simp
    obtain ⟨T, hT⟩ : ∃ T, Q.extract 5 (m + 6) = T := ⟨_, rfl⟩
    rw [hQs, hT] at hQ5
    have hTs : T.size ≤ 100 := by
      have h1 : T.data.toList.length = T.size := by simp
      rw [hQ5] at h1
      simp at h1
      omega
    have hd : ∀ a b : ByteArray, (a ++ s ++ b).data.toList = a.data.toList ++ s.data.toList ++ b.data.toList := fun a b => by rw [app_data, app_data]
    have hP1 := fun W hb => parse_to (⟨#[39, 39, 39]⟩ ++ s ++ ⟨#[39, 39, 39]⟩) (mk 2 (tx s)) 1 (by simp [ByteArray.size_append]; show 3 + s.size + 3 ≤ _; omega) (by rw [hd, ← tx_txt]; exact read_bold hpl hne) rfl W (HM.out.below hb : MX W)
    have hP2 := fun W hb => parse_to (⟨#[39, 39]⟩ ++ s ++ ⟨#[39, 39]⟩) (mk 3 (tx s)) 1 (by simp [ByteArray.size_append]; show 2 + s.size + 2 ≤ _; omega) (by rw [hd, ← tx_txt]; exact read_italic hpl hne) rfl W (HM.out.below hb : MX W)
    have hP3 := fun W hb => parse_to (⟨#[39, 39]⟩ ++ s) (mk 3 (tx s)) 1 (by simp [ByteArray.size_append]; show 2 + s.size ≤ _; omega) (by rw [app_data, ← tx_txt]; exact read_open hpl hne) rfl W (HM.out.below hb : MX W)
    have hP4 := fun W hb => parse_to (⟨#[39, 39, 39, 39, 39]⟩ ++ s ++ ⟨#[39, 39, 39, 39, 39]⟩) (mk 2 (mk 3 (tx s))) 1 (by simp [ByteArray.size_append]; show 5 + s.size + 5 ≤ _; omega) (by rw [hd, ← tx_txt]; exact read_both hpl hne) rfl W (HM.out.below hb : MX W)
    have hP5 := fun W hb => parse_to (Q ++ s ++ ⟨#[39, 39, 39, 39, 39]⟩) ((tx T).app (mk 2 (mk 3 (tx s)))) 2 (by simp [ByteArray.size_append, hQs]; show m + 6 + s.size + 5 ≤ _; omega) (by rw [hd, hQl, ← tx_txt, ← tx_txt, hQ5]; exact read_more m hpl hne) rfl W (HM.out.below hb : MX W)
    have hS1 := same_of (mk 2 (tx s)) (by rw [mk_size, tx_size]; decide)
    have hS2 := same_of (mk 3 (tx s)) (by rw [mk_size, tx_size]; decide)
    have hS4 := same_of (mk 2 (mk 3 (tx s))) (by rw [mk_size, mk_size, tx_size]; decide)
    have hS5 := same_of ((tx T).app (mk 2 (mk 3 (tx s)))) (by rw [Ins.size_app, mk_size, mk_size, tx_size, tx_size]; decide)
    have HC := Lib.hid hC
    have HR := Lib.hid hR
    have HP1 := Lib.hid hP1
    have HP2 := Lib.hid hP2
    have HP3 := Lib.hid hP3
    have HP4 := Lib.hid hP4
    have HP5 := Lib.hid hP5
    have HS1 := Lib.hid hS1
    have HS2 := Lib.hid hS2
    have HS4 := Lib.hid hS4
    have HS5 := Lib.hid hS5
    clear hC hR hP1 hP2 hP3 hP4 hP5 hS1 hS2 hS4 hS5 hd hQ5 hQl hQ hne hpl hca e0 hz
    go_enter Tryz.func11, Tryz.ntmps11
    go_wp2_with fail
    refine HC.out.mono ?_
    rintro e w1 ⟨rfl, hb1⟩
    go_wp2_with fail
    refine (text_any _ _).mono ?_
    rintro e w2 ⟨rfl, hb2⟩
    have A1 := mk_sl _ 2 _ _ (tx_sl w2 s)
    simp only [World.size_alloc] at A1
    have b2 := below_then (below_then (below_then hb1 hb2) (below_new0 w2 (txCells s))) (below_new0 _ (mkCells 2 (.slice (some ⟨w2.heap.size, 0, none⟩) 1 1)))
    go_wp2_with fail
    refine (text_any _ _).mono ?_
    rintro e w3 ⟨rfl, hb3⟩
    have A2 := mk_sl _ 3 _ _ (tx_sl w3 s)
    simp only [World.size_alloc] at A2
    have k3 := below_then (below_then hb3 (below_new0 w3 (txCells s))) (below_new0 _ (mkCells 3 (.slice (some ⟨w3.heap.size, 0, none⟩) 1 1)))
    have A1 := sl_below A1 k3
    have b3 := below_then b2 k3
    go_wp2_with fail
    refine (text_any _ _).mono ?_
    rintro e w4 ⟨rfl, hb4⟩
    have A3 := mk_sl _ 2 _ _ (mk_sl _ 3 _ _ (tx_sl w4 s))
    simp only [World.size_alloc] at A3
    have k4 := below_then (below_then (below_then hb4 (below_new0 w4 (txCells s))) (below_new0 _ (mkCells 3 (.slice (some ⟨w4.heap.size, 0, none⟩) 1 1)))) (below_new0 _ (mkCells 2 (.slice (some ⟨w4.heap.size + 1, 0, none⟩) 1 1)))
    have A1 := sl_below A1 k4
    have A2 := sl_below A2 k4
    have b4 := below_then b3 k4
    have HA1 := Lib.hid A1
    have HA2 := Lib.hid A2
    have HA3 := Lib.hid A3
    have HB4 := Lib.hid b4
    clear A1 A2 A3 b4 b3 b2 k3 k4 hb1 hb2 hb3 hb4
    go_wp2_with fail
    refine (HR.out _).mono ?_
    rintro e w5 ⟨rfl, hb5⟩
    have HB5 := Lib.hid (below_then HB4.out hb5)
    have HA15 := Lib.hid (sl_below HA1.out hb5)
    have HA25 := Lib.hid (sl_below HA2.out hb5)
    have HA35 := Lib.hid (sl_below HA3.out hb5)
    clear HA1 HA2 HA3 HB4 hb5
    go_wp2_with fail
    refine (HP5.out _ HB5.out).mono ?_
    rintro e w6 ⟨p5, c5, rfl, hs5, hb6⟩
    have HB6 := Lib.hid (below_then HB5.out hb6)
    have HA16 := Lib.hid (sl_below HA15.out hb6)
    have HA26 := Lib.hid (sl_below HA25.out hb6)
    have HA36 := Lib.hid (sl_below HA35.out hb6)
    have HS6 := Lib.hid hs5
    clear HA15 HA25 HA35 HB5 hb6 hs5
    have hO : ∀ W : World, insS.own 42 (fun k => k < W.heap.size) W.heap.size (W.alloc (txCells T)) (.slice (some ⟨W.heap.size, 0, none⟩) 1 1) (tx T) := fun W => tx_own _ W T
    have hSB : ∀ W : World, Below w6.heap.size w6 W → insS.src (Shp.kind (fun k => k < W.heap.size) W.heap.size (.slice (some ⟨W.heap.size, 0, none⟩) 1 1)) (W.alloc (txCells T)) (.slice (some ⟨w4.heap.size + 1 + 1, 0, none⟩) 1 1) (mk 2 (mk 3 (tx s))) := fun W hb7 =>
      Shp.src_of (insS.sl_on (insS.sl_on (sl_below HA36.out hb7) (Kept.belowLt (below_new0 W (txCells T)))) (Kept.mono fun k hk _ => ⟨.inl hk.2, by intro e; injection e with e; have e : W.heap.size = k := e; have := hk.2; omega⟩))
    have HO := Lib.hid hO
    have HSB := Lib.hid hSB
    clear hO hSB
    go_upto_region 8 with fail
    go_wp2_with (first
      | (go_at_call 26; refine (text_any _ _).mono ?_; rintro e w7 ⟨rfl, hb7⟩)
      | (at_builtin; refine append_shp insS tyI _ rfl _ _ rfl (HO.out w7) rfl (HSB.out w7 hb7) rfl (by show (1 + 1) * 89 ≤ _; omega) (by simp) ?_; intro v8 w8 own8 gr8 bel8 kd8))
    have hb8 := below_then hb7 (bel8 _ (below_new0 w7 (txCells T)))
    obtain ⟨vp, vc, hv⟩ := own8.form
    have hv2 : v8 = .slice vp 2 vc := hv
    clear hv
    subst hv2
    have HV8 := Lib.hid (sl_any own8.sl : insS.sl Any w8 (.slice vp 2 vc) ((tx T).app (mk 2 (mk 3 (tx s)))))
    have HB8 := Lib.hid (below_then HB6.out hb8)
    have HA18 := Lib.hid (sl_below HA16.out hb8)
    have HA28 := Lib.hid (sl_below HA26.out hb8)
    have HA38 := Lib.hid (sl_below HA36.out hb8)
    have HS8 := Lib.hid (sl_below HS6.out hb8)
    clear own8 gr8 bel8 kd8 hb7 hb8 HB6 HA16 HA26 HA36 HS6 HO HSB
    go_wp2_with fail
    refine (HP1.out _ HB8.out).mono ?_
    rintro e w9 ⟨p9, c9, rfl, hs9, hb9⟩
    have HB9 := Lib.hid (below_then HB8.out hb9)
    have HA19 := Lib.hid (sl_below HA18.out hb9)
    have HA29 := Lib.hid (sl_below HA28.out hb9)
    have HA39 := Lib.hid (sl_below HA38.out hb9)
    have HS9 := Lib.hid (sl_below HS8.out hb9)
    have HV9 := Lib.hid (sl_below HV8.out hb9)
    have HX9 := Lib.hid hs9
    clear hb9 HA18 HA28 HA38 HS8 HV8 HB8 hs9
    go_wp2_with fail
    refine (HS1.out p9 c9 (some ⟨w2.heap.size + 1, 0, none⟩) 1 _ HX9.out HA19.out).mono ?_
    rintro e w10 ⟨rfl, hb10⟩
    have HB10 := Lib.hid (below_then HB9.out hb10)
    have HA110 := Lib.hid (sl_below HA19.out hb10)
    have HA210 := Lib.hid (sl_below HA29.out hb10)
    have HA310 := Lib.hid (sl_below HA39.out hb10)
    have HS10 := Lib.hid (sl_below HS9.out hb10)
    have HV10 := Lib.hid (sl_below HV9.out hb10)
    clear hb10 HA19 HA29 HA39 HS9 HV9 HB9
    go_wp2_with fail
    refine (HP2.out _ HB10.out).mono ?_
    rintro e w11 ⟨p11, c11, rfl, hs11, hb11⟩
    have HB11 := Lib.hid (below_then HB10.out hb11)
    have HA111 := Lib.hid (sl_below HA110.out hb11)
    have HA211 := Lib.hid (sl_below HA210.out hb11)
    have HA311 := Lib.hid (sl_below HA310.out hb11)
    have HS11 := Lib.hid (sl_below HS10.out hb11)
    have HV11 := Lib.hid (sl_below HV10.out hb11)
    have HX11 := Lib.hid hs11
    clear hb11 HA110 HA210 HA310 HS10 HV10 HB10 hs11
    go_wp2_with fail
    refine (HS2.out p11 c11 (some ⟨w3.heap.size + 1, 0, none⟩) 1 _ HX11.out HA211.out).mono ?_
    rintro e w12 ⟨rfl, hb12⟩
    have HB12 := Lib.hid (below_then HB11.out hb12)
    have HA112 := Lib.hid (sl_below HA111.out hb12)
    have HA212 := Lib.hid (sl_below HA211.out hb12)
    have HA312 := Lib.hid (sl_below HA311.out hb12)
    have HS12 := Lib.hid (sl_below HS11.out hb12)
    have HV12 := Lib.hid (sl_below HV11.out hb12)
    clear hb12 HA111 HA211 HA311 HS11 HV11 HB11
    go_wp2_with fail
    refine (HP3.out _ HB12.out).mono ?_
    rintro e w13 ⟨p13, c13, rfl, hs13, hb13⟩
    have HB13 := Lib.hid (below_then HB12.out hb13)
    have HA113 := Lib.hid (sl_below HA112.out hb13)
    have HA213 := Lib.hid (sl_below HA212.out hb13)
    have HA313 := Lib.hid (sl_below HA312.out hb13)
    have HS13 := Lib.hid (sl_below HS12.out hb13)
    have HV13 := Lib.hid (sl_below HV12.out hb13)
    have HX13 := Lib.hid hs13
    clear hb13 HA112 HA212 HA312 HS12 HV12 HB12 hs13
    go_wp2_with fail
    refine (HS2.out p13 c13 (some ⟨w3.heap.size + 1, 0, none⟩) 1 _ HX13.out HA213.out).mono ?_
    rintro e w14 ⟨rfl, hb14⟩
    have HB14 := Lib.hid (below_then HB13.out hb14)
    have HA114 := Lib.hid (sl_below HA113.out hb14)
    have HA214 := Lib.hid (sl_below HA213.out hb14)
    have HA314 := Lib.hid (sl_below HA313.out hb14)
    have HS14 := Lib.hid (sl_below HS13.out hb14)
    have HV14 := Lib.hid (sl_below HV13.out hb14)
    clear hb14 HA113 HA213 HA313 HS13 HV13 HB13
    go_wp2_with fail
    refine (HP4.out _ HB14.out).mono ?_
    rintro e w15 ⟨p15, c15, rfl, hs15, hb15⟩
    have HB15 := Lib.hid (below_then HB14.out hb15)
    have HA115 := Lib.hid (sl_below HA114.out hb15)
    have HA215 := Lib.hid (sl_below HA214.out hb15)
    have HA315 := Lib.hid (sl_below HA314.out hb15)
    have HS15 := Lib.hid (sl_below HS14.out hb15)
    have HV15 := Lib.hid (sl_below HV14.out hb15)
    have HX15 := Lib.hid hs15
    clear hb15 HA114 HA214 HA314 HS14 HV14 HB14 hs15
    go_wp2_with fail
    refine (HS4.out p15 c15 (some ⟨w4.heap.size + 1 + 1, 0, none⟩) 1 _ HX15.out HA315.out).mono ?_
    rintro e w16 ⟨rfl, hb16⟩
    have HB16 := Lib.hid (below_then HB15.out hb16)
    have HA116 := Lib.hid (sl_below HA115.out hb16)
    have HA216 := Lib.hid (sl_below HA215.out hb16)
    have HA316 := Lib.hid (sl_below HA315.out hb16)
    have HS16 := Lib.hid (sl_below HS15.out hb16)
    have HV16 := Lib.hid (sl_below HV15.out hb16)
    clear hb16 HA115 HA215 HA315 HS15 HV15 HB15
    go_wp2_with fail
    refine (HS5.out p5 c5 vp vc _ HS16.out HV16.out).mono ?_
    rintro e w17 ⟨rfl, hb17⟩
    have HB17 := Lib.hid (below_then HB16.out hb17)
    have HA117 := Lib.hid (sl_below HA116.out hb17)
    have HA217 := Lib.hid (sl_below HA216.out hb17)
    have HA317 := Lib.hid (sl_below HA316.out hb17)
    have HS17 := Lib.hid (sl_below HS16.out hb17)
    have HV17 := Lib.hid (sl_below HV16.out hb17)
    clear hb17 HA116 HA216 HA316 HS16 HV16 HB16
    go_wp2_with fail
    refine (HK.out _ HB17.out).mono ?_
    rintro e w18 ⟨rfl, hb18⟩
    go_wp2_with fail
    go_ret
    exact ⟨rfl, hb18⟩
end Go.Proofs.YtegcacnmcdkfiaaGreatDoor
