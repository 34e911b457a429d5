/-
  Copies of elements, the marks of footnotes: what the program's and the reference's functions leave. Conditions: those typed in each theorem.
-/
import Derived.Test.YtibmemaciahofaaDoorDocMem
import Derived.Outline
namespace Go.Proofs.YtibmemaciahofaaDoor
open Go.RowKit Doc
set_option linter.unusedVariables false

set_option maxRecDepth 10000 in
set_option maxHeartbeats 1000000 in
theorem copies_any : ∀ (N : Nat) (q : Nat → Prop) (L : Ins) (p : Option Addr) (c : Nat) (w : World), L.size < N → L.size ≤ 1000000 → insS.sl q w (.slice p L.len c) L →
    Calls Tryd.prog 56 #[.slice p L.len c] w fun e w' => ∃ p c, e = .returned (.slice p L.len c) ∧ Below w.heap.size w w' ∧ insS.sl (fun k => w.heap.size ≤ k) w' (.slice p L.len c) L := by
  intro N
  induction N with
  | zero => intro q L p c w hN; exact absurd hN (Nat.not_lt_zero _)
  | succ N ih =>
    intro q L p c w hN hM hv
    obtain ⟨hF, -, hnc, hc⟩ := Shp.rest_start hv
    have hlen := L.len_size
    obtain ⟨n, hn⟩ : ∃ n, n = L.len := ⟨_, rfl⟩
    rw [← hn] at hlen hnc ⊢
    have HN := Lib.hid hn
    clear hn hv
    go_enter Tryd.func56, Tryd.ntmps56
    go_wp2_with fail
    go_loopg [3, 5, 8] (n + 1) (fun g s3 s5 s8 wr => ∃ (A R : Ins), A.app R = L ∧ A.len + R.len = n ∧ R.len < g ∧ s8 = .int .i64 A.len ∧ insS.own 46 (fun _ => False) w.heap.size wr s3 A ∧ Below w.heap.size w wr ∧ insS.rest q w p A.len R)
    case atStart => exact ⟨.nil, L, rfl, by simp [Ins.len]; exact HN.out.symm, by rw [← HN.out]; omega, rfl, Shp.own.nil, Below.refl _ _, hF⟩
    case round =>
      obtain ⟨A, R, hAR, hi1, hg, rfl, hown, hb, hR⟩ := hrel
      have HAR := Lib.hid hAR
      generalize hi : A.len = i at *
      have HI := Lib.hid hi
      clear hAR hi
      cases R with
      | nil =>
        have g1 : decide (i < n) = false := by simp [Ins.len] at hi1; simp; omega
        have HO := Lib.hid hown
        clear hi1 hR hown
        go_wp2_with fail
        obtain ⟨up, uc, rfl⟩ := HO.out.form
        go_ret
        have e1 : A = L := by have := HAR.out; simpa using this
        subst e1
        have e2 : insS.len A = n := HN.out.symm
        rw [e2]
        exact ⟨_, _, rfl, hb, by have := HO.out.sl; rw [e2] at this; exact insS.sl_on this (Kept.mono fun k hk _ => by rcases hk with hk | hk; exact hk.elim; exact hk)⟩
      | cons a t s n' h k r =>
        rcases hR with hR | ⟨b, o, ys, rfl, hqb, hbl, hA, hE⟩
        · cases hR
        · obtain ⟨kp, kc, c0, c1, c2, c3, c4, c5, hk, hr⟩ := (IEnc.on (Kept.below hb) hE).head (hA.below hbl hb)
          have g1 : decide (i < n) = true := by simp [Ins.len] at hi1; simp; omega
          have hin : i < n := by simp [Ins.len] at hi1; omega
          have hsz : L.size = A.size + k.size + r.size + 1 := by rw [← HAR.out, Ins.size_app]; simp only [Ins.size]; omega
          have hks : k.size < N := by omega
          have hks2 : k.size ≤ 1000000 := by omega
          have hla : insS.len A ≤ 1000000 := by show A.len ≤ _; have := A.len_size; omega
          have HE := Lib.hid hE
          have HA := Lib.hid hA
          have HG := Lib.hid hi1
          clear hE hA hr hi1 hsz
          go_wp2_with fail
          refine (ih q k _ _ _ hks hks2 (insS.sl_on hk (Kept.alloc _))).mono ?_
          rintro e w1 ⟨up, uc, rfl, hb1, hu⟩
          have KX := (Known.made wr 46 #[.int .i64 a, .string t, .int .i64 s, .string n', .string h, .slice kp k.len kc]).on hb1
          obtain ⟨k0, k1, k2, k3, k4, k5⟩ := KX.six
          have kf := KX.free 5
          have hsz := hb.size
          have hs1 := hb1.size
          simp only [World.size_alloc] at hs1 hu
          clear c0 c1 c2 c3 c4 c5 hk
          have hbw : Below wr.heap.size wr (w1.setCell ⟨wr.heap.size, 5, none⟩ (.slice up k.len uc)) := ((below_new0 _ _).trans (hb1.mono (by simp))).setCell (p := ⟨wr.heap.size, 5, none⟩) (Nat.le_refl _) _
          have hu2 := insS.sl_on hu (Kept.put (g := wr.heap.size) (fun k' h' => by omega) 5 (.slice up k.len uc))
          have ho2 := (hown.below hbw).below (below_new0 _ (.cells #[.int .i64 a, .string t, .int .i64 s, .string n', .string h, .slice up k.len uc] 46))
          have hl3 := hown.lt
          have hs := src_ins (a := a) (t := t) (s := s) (n := n') (h := h) (ty := 46) (insS.sl_on hu2 (q' := Shp.kind (fun _ => False) w.heap.size u3) (Kept.mono fun k' h' _ => ⟨.inr (by omega), fun e => by have := hl3 _ e; omega⟩))
          rw [show (w1.setCell ⟨wr.heap.size, 5, none⟩ (.slice up k.len uc)).heap.size = w1.heap.size by simp] at hs
          have HO2 := Lib.hid ho2
          have HS := Lib.hid hs
          have HBW := Lib.hid hbw
          clear hown hu hu2 ho2 hs hb1 hbw hl3
          go_wp2_with (at_builtin; go_must (refine append_shp insS tyI _ rfl _ _ rfl HO2.out rfl HS.out rfl (by show (insS.len A + 1) * 89 ≤ _; omega) (by simp; omega) ?_); intro v' w2 hown' hgrow hbel _)
          simp only [Ins.len] at hg
          have HG2 := HG.out
          simp only [Ins.len] at HG2
          go_roundg (r.len + 1)
          case measure => omega
          case rel =>
            have hl : (A.app (.cons a t s n' h k .nil)).len = i + 1 := by rw [Ins.len_app, HI.out]; rfl
            have hbw2 : Below w.heap.size w ((w1.setCell ⟨wr.heap.size, 5, none⟩ (.slice up k.len uc)).alloc (.cells #[.int .i64 a, .string t, .int .i64 s, .string n', .string h, .slice up k.len uc] 46)) :=
              (hb.trans (HBW.out.mono hsz)).trans ((below_new0 _ _).mono (by simp; omega))
            refine ⟨A.app (.cons a t s n' h k .nil), r, by rw [Ins.app_assoc]; exact HAR.out, by rw [hl]; omega, by omega, by rw [hl]; go_num, hown', hbel _ hbw2, ?_⟩
            rw [hl]
            exact .inr ⟨b, o, ys, rfl, hqb, hbl, HA.out, HE.out.tail⟩

set_option maxRecDepth 10000 in
set_option maxHeartbeats 2000000 in
theorem marksI_any : ∀ (N : Nat) (q : Nat → Prop) (L : Ins) (p : Option Addr) (c : Nat) (w : World), L.size < N → L.size ≤ 1000000 → insS.sl q w (.slice p L.len c) L →
    Calls Tryd.prog 43 #[.slice p L.len c] w fun e w' => ∃ p c, e = .returned (.slice p L.marks.len c) ∧ Below w.heap.size w w' ∧ insS.sl (fun k => w.heap.size ≤ k) w' (.slice p L.marks.len c) L.marks := by
  intro N
  induction N with
  | zero => intro q L p c w hN; exact absurd hN (Nat.not_lt_zero _)
  | succ N ih =>
    intro q L p c w hN hM hv
    obtain ⟨hF, -, hnc, hc⟩ := Shp.rest_start hv
    have hlen := L.len_size
    obtain ⟨n, hn⟩ : ∃ n, n = L.len := ⟨_, rfl⟩
    rw [← hn] at hlen hnc ⊢
    have HN := Lib.hid hn
    clear hn hv
    go_enter Tryd.func43, Tryd.ntmps43
    go_wp2_with fail
    go_loopg [3, 5, 8] (n + 1) (fun g s3 s5 s8 wr => ∃ (A R : Ins), A.app R = L ∧ A.len + R.len = n ∧ R.len < g ∧ s8 = .int .i64 A.len ∧ insS.own 46 (fun _ => False) w.heap.size wr s3 A.marks ∧ Below w.heap.size w wr ∧ insS.rest q w p A.len R)
    case atStart => exact ⟨.nil, L, rfl, by simp [Ins.len]; exact HN.out.symm, by rw [← HN.out]; omega, rfl, Shp.own.nil, Below.refl _ _, hF⟩
    case round =>
      obtain ⟨A, R, hAR, hi1, hg, rfl, hown, hb, hR⟩ := hrel
      have HAR := Lib.hid hAR
      generalize hi : A.len = i at *
      have HI := Lib.hid hi
      clear hAR hi
      cases R with
      | nil =>
        have g1 : decide (i < n) = false := by simp [Ins.len] at hi1; simp; omega
        have HO := Lib.hid hown
        clear hi1 hR hown
        go_wp2_with fail
        obtain ⟨up, uc, rfl⟩ := HO.out.form
        go_ret
        have e1 : A = L := by have := HAR.out; simpa using this
        subst e1
        exact ⟨_, _, rfl, hb, insS.sl_on HO.out.sl (Kept.mono fun k hk _ => by rcases hk with hk | hk; exact hk.elim; exact hk)⟩
      | cons a t s n' h k r =>
        rcases hR with hR | ⟨b, o, ys, rfl, hqb, hbl, hA, hE⟩
        · cases hR
        · obtain ⟨kp, kc, c0, c1, c2, c3, c4, c5, hk, hr⟩ := (IEnc.on (Kept.below hb) hE).head (hA.below hbl hb)
          have g1 : decide (i < n) = true := by simp [Ins.len] at hi1; simp; omega
          have hin : i < n := by simp [Ins.len] at hi1; omega
          have hsz : L.size = A.size + k.size + r.size + 1 := by rw [← HAR.out, Ins.size_app]; simp only [Ins.size]; omega
          have hks : k.size < N := by omega
          have hks2 : k.size ≤ 1000000 := by omega
          have hla : insS.len A.marks ≤ 1000000 := by show A.marks.len ≤ _; have := A.marks_len; omega
          have hlk : insS.len k.marks ≤ 1000000 := by show k.marks.len ≤ _; have := k.marks_len; omega
          have hT : insS.rest q w (some ⟨b, o, none⟩) (i + 1) r := .inr ⟨b, o, ys, rfl, hqb, hbl, hA, hE.tail⟩
          have HT := Lib.hid hT
          have HG := Lib.hid hi1
          have HGG := Lib.hid hg
          have hsb := hb.size
          clear hE hA hr hi1 hsz hT hg
          by_cases h5 : a = 5
          · have e5 : (a == 5) = true := by simpa using h5
            have HM : Hid ((A.app (.cons a t s n' h k .nil)).marks = A.marks.app (.cons a t s n' h k .nil)) := Lib.hid (by rw [Ins.marks_app]; congr 1; simp only [Ins.marks, if_pos h5])
            clear h5
            go_wp2_with fail
            refine (copies_any _ q k _ _ _ (Nat.lt_succ_self _) hks2 (insS.sl_on hk (Kept.alloc _))).mono ?_
            rintro e w1 ⟨up, uc, rfl, hb1, hu⟩
            have KX := (Known.made wr 46 #[.int .i64 a, .string t, .int .i64 s, .string n', .string h, .slice kp k.len kc]).on hb1
            obtain ⟨k0, k1, k2, k3, k4, k5⟩ := KX.six
            have kf := KX.free 5
            have hs1 := hb1.size
            simp only [World.size_alloc] at hs1 hu
            clear c0 c1 c2 c3 c4 c5 hk
            have hbw : Below wr.heap.size wr (w1.setCell ⟨wr.heap.size, 5, none⟩ (.slice up k.len uc)) := ((below_new0 _ _).trans (hb1.mono (by simp))).setCell (p := ⟨wr.heap.size, 5, none⟩) (Nat.le_refl _) _
            have hu2 := insS.sl_on hu (Kept.put (g := wr.heap.size) (fun k' h' => by omega) 5 (.slice up k.len uc))
            have ho2 := (hown.below hbw).below (below_new0 _ (.cells #[.int .i64 a, .string t, .int .i64 s, .string n', .string h, .slice up k.len uc] 46))
            have hl3 := hown.lt
            have hs := src_ins (a := a) (t := t) (s := s) (n := n') (h := h) (ty := 46) (insS.sl_on hu2 (q' := Shp.kind (fun _ => False) w.heap.size u3) (Kept.mono fun k' h' _ => ⟨.inr (by omega), fun e => by have := hl3 _ e; omega⟩))
            rw [show (w1.setCell ⟨wr.heap.size, 5, none⟩ (.slice up k.len uc)).heap.size = w1.heap.size by simp] at hs
            have HO2 := Lib.hid ho2
            have HS := Lib.hid hs
            have HBW := Lib.hid hbw
            clear hown hu hu2 ho2 hs hb1 hbw hl3
            go_wp2_with (at_builtin; go_must (refine append_shp insS tyI _ rfl _ _ rfl HO2.out rfl HS.out rfl (by show (insS.len A.marks + 1) * 89 ≤ _; omega) (by simp; omega) ?_); intro v' w2 hown' hgrow hbel _)
            have HG2 := HG.out
            have HG3 := HGG.out
            simp only [Ins.len] at HG2 HG3
            go_roundg (r.len + 1)
            case measure => omega
            case rel =>
              have hl : (A.app (.cons a t s n' h k .nil)).len = i + 1 := by rw [Ins.len_app, HI.out]; rfl
              have hbw2 : Below w.heap.size w ((w1.setCell ⟨wr.heap.size, 5, none⟩ (.slice up k.len uc)).alloc (.cells #[.int .i64 a, .string t, .int .i64 s, .string n', .string h, .slice up k.len uc] 46)) :=
                (hb.trans (HBW.out.mono hsb)).trans ((below_new0 _ _).mono (by simp; omega))
              exact ⟨A.app (.cons a t s n' h k .nil), r, by rw [Ins.app_assoc]; exact HAR.out, by rw [hl]; omega, by omega, by rw [hl]; go_num, by rw [HM.out]; exact hown', hbel _ hbw2, by rw [hl]; exact HT.out⟩
          · have e5 : (a == 5) = false := by simpa using h5
            by_cases h2 : a = 2 ∨ a = 3 ∨ a = 4
            · have HM : Hid ((A.app (.cons a t s n' h k .nil)).marks = A.marks.app k.marks) := Lib.hid (by rw [Ins.marks_app]; congr 1; simp only [Ins.marks, if_neg h5, if_pos h2, Ins.app_nil])
              obtain ⟨x2, x3, hx⟩ : ∃ x2 x3 : Bool, (a == 2) = x2 ∧ (a == 3) = x3 ∧ (a == 4) = (!x2 && !x3) := by
                refine ⟨a == 2, a == 3, rfl, rfl, ?_⟩
                rcases h2 with rfl | rfl | rfl <;> rfl
              obtain ⟨e2, e3, e4⟩ := hx
              clear h5 h2
              have hm := fun (W : World) (hW : insS.sl q W (.slice kp k.len kc) k) => ih q k kp kc W hks hks2 hW
              rcases x2 with _ | _ <;> rcases x3 with _ | _
              all_goals
                simp at e4
                go_wp2_with fail
                refine (ih q k _ _ _ hks hks2 (insS.sl_on hk (Kept.alloc _))).mono ?_
                rintro e w1 ⟨up, uc, rfl, hb1, hu⟩
                have hs1 := hb1.size
                simp only [World.size_alloc] at hs1 hu
                clear c0 c1 c2 c3 c4 c5 hk
                have hbw : Below wr.heap.size wr w1 := ((below_new0 _ _).trans (hb1.mono (by simp)))
                have ho2 := hown.below hbw
                have hl3 := hown.lt
                have hs := Shp.src_of (insS.sl_on hu (q' := Shp.kind (fun _ => False) w.heap.size u3) (Kept.mono fun k' h' _ => ⟨.inr (by omega), fun e => by have := hl3 _ e; omega⟩))
                have HO2 := Lib.hid ho2
                have HS := Lib.hid hs
                have HBW := Lib.hid hbw
                clear hown hu ho2 hs hb1 hbw hl3
                go_wp2_with (at_builtin; go_must (refine append_shp insS tyI _ rfl _ _ rfl HO2.out rfl HS.out rfl (by omega) (by omega) ?_); intro v' w2 hown' hgrow hbel _)
                have HG2 := HG.out
                have HG3 := HGG.out
                simp only [Ins.len] at HG2 HG3
                go_roundg (r.len + 1)
                case measure => omega
                case rel =>
                  have hl : (A.app (.cons a t s n' h k .nil)).len = i + 1 := by rw [Ins.len_app, HI.out]; rfl
                  exact ⟨A.app (.cons a t s n' h k .nil), r, by rw [Ins.app_assoc]; exact HAR.out, by rw [hl]; omega, by omega, by rw [hl]; go_num, by rw [HM.out]; exact hown', hbel _ (hb.trans (HBW.out.mono hsb)), by rw [hl]; exact HT.out⟩
            · have HM : Hid ((A.app (.cons a t s n' h k .nil)).marks = A.marks) := Lib.hid (by rw [Ins.marks_app]; simp only [Ins.marks, if_neg h5, if_neg h2, Ins.app_nil])
              have e2 : (a == 2) = false := by simp; omega
              have e3 : (a == 3) = false := by simp; omega
              have e4 : (a == 4) = false := by simp; omega
              have HO2 := Lib.hid (hown.below (below_new0 _ (.cells #[.int .i64 a, .string t, .int .i64 s, .string n', .string h, .slice kp k.len kc] 46)))
              clear h5 h2 hown hk
              go_wp2_with fail
              have HG2 := HG.out
              have HG3 := HGG.out
              simp only [Ins.len] at HG2 HG3
              go_roundg (r.len + 1)
              case measure => omega
              case rel =>
                have hl : (A.app (.cons a t s n' h k .nil)).len = i + 1 := by rw [Ins.len_app, HI.out]; rfl
                exact ⟨A.app (.cons a t s n' h k .nil), r, by rw [Ins.app_assoc]; exact HAR.out, by rw [hl]; omega, by omega, by rw [hl]; go_num, by rw [HM.out]; exact HO2.out, hb.trans ((below_new0 _ _).mono hsb), by rw [hl]; exact HT.out⟩
end Go.Proofs.YtibmemaciahofaaDoor
