/-
  The claim's own texts, packed. Conditions: those typed in each theorem.
-/
import Derived.Test.YtcklofamaooegaaGreatDoorZKaav
import Derived.Test.YtcklofamaooegaaGreatDoorZKaak
import Derived.Deep.RegionWith
import Derived.Deep.Cut
import Derived.Deep.LoopGhost
set_option maxHeartbeats 4000000
set_option maxRecDepth 10000
set_option linter.unusedVariables false
namespace Go.Proofs.YtcklofamaooegaaGreatDoor
open Go.RowKit
variable {N : Nat}
theorem alloc_size0 (w : World) (o : Obj) : (w.alloc o).heap.size = w.heap.size + 1 := by simp
theorem made_at {w : World} {n : Nat} (h : w.heap.size = n) (t : TypeId) (cs : Array Value) : Known (w.alloc (.cells cs t)) n t cs := h ▸ Known.made w t cs
theorem table (w : World) (o : Obj) (t t2 : TypeId) (n : Nat) (hn : n = 0 ∨ n = 1 ∨ n = 3 ∨ n = 4 ∨ n = 5) :
  ∃ X, (∀ h : n < 6, ([.slice (some ⟨w.heap.size + 1, 0, none⟩) 1 1, .slice (some ⟨w.heap.size + 1 + 1, 0, none⟩) 1 1, .slice none 0 0, .slice (some ⟨w.heap.size + 1 + 1 + 1, 0, none⟩) 2 2, .slice (some ⟨w.heap.size + 1 + 1 + 1 + 1, 0, none⟩) 3 3, .slice (some ⟨w.heap.size + 1 + 1 + 1 + 1 + 1, 0, none⟩) 1 1] : List Value)[n]'h = .slice (some ⟨X, 0, none⟩) (Form.ops n).length (Form.ops n).length)
   ∧ (∀ v, Strs (((((((w.alloc o).alloc (.cells #[.string ⟨#[111, 114]⟩] t)).alloc (.cells #[.string ⟨#[97, 110, 100]⟩] t)).alloc (.cells #[.string ⟨#[43]⟩, .string ⟨#[45]⟩] t)).alloc (.cells #[.string ⟨#[42]⟩, .string ⟨#[47]⟩, .string ⟨#[109, 111, 100]⟩] t)).alloc (.cells #[.string ⟨#[114, 111, 117, 110, 100]⟩] t)).alloc (.cells v t2)) X (Form.ops n))
   ∧ w.heap.size < X ∧ X < w.heap.size + 7 := by
 have S0 := Strs.made (w.alloc o) t (Form.ops 0)
 have S1 := Strs.made ((w.alloc o).alloc (.cells #[.string ⟨#[111, 114]⟩] t)) t (Form.ops 1)
 have S3 := Strs.made (((w.alloc o).alloc (.cells #[.string ⟨#[111, 114]⟩] t)).alloc (.cells #[.string ⟨#[97, 110, 100]⟩] t)) t (Form.ops 3)
 have S4 := Strs.made ((((w.alloc o).alloc (.cells #[.string ⟨#[111, 114]⟩] t)).alloc (.cells #[.string ⟨#[97, 110, 100]⟩] t)).alloc (.cells #[.string ⟨#[43]⟩, .string ⟨#[45]⟩] t)) t (Form.ops 4)
 have S5 := Strs.made (((((w.alloc o).alloc (.cells #[.string ⟨#[111, 114]⟩] t)).alloc (.cells #[.string ⟨#[97, 110, 100]⟩] t)).alloc (.cells #[.string ⟨#[43]⟩, .string ⟨#[45]⟩] t)).alloc (.cells #[.string ⟨#[42]⟩, .string ⟨#[47]⟩, .string ⟨#[109, 111, 100]⟩] t)) t (Form.ops 5)
 rcases hn with rfl | rfl | rfl | rfl | rfl
 ·refine ⟨w.heap.size + 1, fun _ => rfl, fun v => ?_, by omega, by omega⟩
  have := ((((((S0).alloc (by simp) (.cells #[.string ⟨#[97, 110, 100]⟩] t)).alloc (by simp <;> omega) (.cells #[.string ⟨#[43]⟩, .string ⟨#[45]⟩] t)).alloc (by simp <;> omega) (.cells #[.string ⟨#[42]⟩, .string ⟨#[47]⟩, .string ⟨#[109, 111, 100]⟩] t)).alloc (by simp <;> omega) (.cells #[.string ⟨#[114, 111, 117, 110, 100]⟩] t)).alloc (by simp <;> omega) (.cells v t2))
  rw [alloc_size0] at this
  exact this
 ·refine ⟨w.heap.size + 1 + 1, fun _ => rfl, fun v => ?_, by omega, by omega⟩
  have := (((((S1).alloc (by simp) (.cells #[.string ⟨#[43]⟩, .string ⟨#[45]⟩] t)).alloc (by simp <;> omega) (.cells #[.string ⟨#[42]⟩, .string ⟨#[47]⟩, .string ⟨#[109, 111, 100]⟩] t)).alloc (by simp <;> omega) (.cells #[.string ⟨#[114, 111, 117, 110, 100]⟩] t)).alloc (by simp <;> omega) (.cells v t2))
  rw [alloc_size0, alloc_size0] at this
  exact this
 ·refine ⟨w.heap.size + 1 + 1 + 1, fun _ => rfl, fun v => ?_, by omega, by omega⟩
  have := ((((S3).alloc (by simp) (.cells #[.string ⟨#[42]⟩, .string ⟨#[47]⟩, .string ⟨#[109, 111, 100]⟩] t)).alloc (by simp <;> omega) (.cells #[.string ⟨#[114, 111, 117, 110, 100]⟩] t)).alloc (by simp <;> omega) (.cells v t2))
  rw [alloc_size0, alloc_size0, alloc_size0] at this
  exact this
 ·refine ⟨w.heap.size + 1 + 1 + 1 + 1, fun _ => rfl, fun v => ?_, by omega, by omega⟩
  have := (((S4).alloc (by simp) (.cells #[.string ⟨#[114, 111, 117, 110, 100]⟩] t)).alloc (by simp <;> omega) (.cells v t2))
  rw [alloc_size0, alloc_size0, alloc_size0, alloc_size0] at this
  exact this
 ·refine ⟨w.heap.size + 1 + 1 + 1 + 1 + 1, fun _ => rfl, fun v => ?_, by omega, by omega⟩
  have := ((S5).alloc (by simp) (.cells v t2))
  rw [alloc_size0, alloc_size0, alloc_size0, alloc_size0, alloc_size0] at this
  exact this
set_option maxRecDepth 20000 in
theorem lev_walk (f n : Nat) (g : Nat) (ts : List ByteArray) (x1 r : Form.Res) (w : World) (hn : n = 0 ∨ n = 1 ∨ n = 3 ∨ n = 4 ∨ n = 5) (hO : Lev N f (n + 1)) (h1 : Form.P f (.lv (n + 1)) ts false = some x1)
  (h2 : Form.P f (.loop n x1.T) x1.rest x1.bad = some r) (hl : ts.length ≤ 1000) (hs : RS N g w ts) :
  Calls Tryz.prog 142 #[.pointer (some ⟨g, 0, none⟩), .int .i64 n] w (Ans N g w r) := by
 have hn2 : ¬ (n : Int) = 2 := by omega
 have hn6 : ¬ (n : Int) = 6 := by omega
 have hn5 : n < 6 := by omega
 have hol := ops_len n
 have hlen1 := Form.P_len _ _ _ _ _ h1
 have hg0 := hs.lt
 obtain ⟨X, hT, hS, hX1, hX2⟩ := table w (.cells #[.string ⟨#[]⟩, .string ⟨#[]⟩, .slice none 0 0] 108) 9 22 n hn
 have hO1 : ∀ (ts : List ByteArray) (r : Form.Res) (w : World), Form.P f (.lv (n + 1)) ts false = some r → ts.length ≤ 1000 → RS N g w ts →
  Calls Tryz.prog 142 #[.pointer (some ⟨g, 0, none⟩), .int .i64 ((n : Int) + 1)] w (Ans N g w r) := fun ts r w a b c => by
   have := hO g ts r w a b c
   rwa [show (((n + 1 : Nat) : Int)) = (n : Int) + 1 by omega] at this
 clear hO
 have HT := Lib.hid hT
 clear hT
 go_enter Tryz.func142, Tryz.ntmps142
 go_wp2_with fail
 simp only [HT.out hn5]
 refine calls_at ?_
 intro W hW
 have SW : Strs W X (Form.ops n) := by rw [hW]; exact hS _
 have BW : Below w.heap.size w W := by
  rw [hW]
  exact ((((((below_new0 w _).alloc (by simp) _).alloc (by simp <;> omega) _).alloc (by simp <;> omega) _).alloc (by simp <;> omega) _).alloc (by simp <;> omega) _).alloc (by simp <;> omega) _
 have zW : W.heap.size = w.heap.size + 7 := by rw [hW]; simp
 have KW : Known W w.heap.size 108 #[.string ⟨#[]⟩, .string ⟨#[]⟩, .slice none 0 0] := by
  rw [hW]
  exact ((((((Known.made w _ _).alloc _).alloc _).alloc _).alloc _).alloc _).alloc _
 have RW := hs.below BW
 clear hW hS hs
 refine (hO1 ts x1 W h1 hl RW).mono ?_
 rintro e w1 ⟨o, s, p, m, rfl, st1, gd1, bd1⟩
 have zw1 := st1.below.size
 have K1 := KW.step st1 (by omega)
 have S1 := SW.step st1 (by omega) (by omega)
 clear h1 RW KW SW
 obtain ⟨mm, hm⟩ : ∃ mm, mm = (Form.ops n).length := ⟨_, rfl⟩
 have Hm := Lib.hid hm
 rw [← hm]
 clear hm
 have G1 : Below (g + 1) w1 (w1.alloc (.cells #[.string o, .string s, .slice p m m] 108)) := (below_new0 w1 _).mono (by omega)
 go_wp2_with fail
 go_loopg [7] (f + 1) (fun q s7 wr => ∃ o s p m, Known wr w1.heap.size 108 #[.string o, .string s, .slice p m m] ∧ Step g w wr ∧ Known wr w.heap.size 108 #[.string ⟨#[]⟩, .string ⟨#[]⟩, .slice none 0 0] ∧ Strs wr X (Form.ops n)
  ∧ ((∃ (a : Form.Tree) (ts : List ByteArray) (k : Nat), k < q ∧ k ≤ f ∧ Form.P k (.loop n a) ts false = some r ∧ ts.length ≤ 1000 ∧ NL (fun i => w.heap.size < i ∧ i ≠ w1.heap.size) wr a o s p m ∧ RS N g wr ts) ∨ (RB g wr ∧ r.bad = true)))
 case atStart =>
  refine ⟨o, s, p, m, Known.made w1 _ _, ((Step.of_below BW (by omega)).trans st1).alloc (by omega) _, K1.alloc _, S1.alloc (by omega) _, ?_⟩
  cases hb : x1.bad with
  | false =>
    rw [hb] at h2
    obtain ⟨n1, r1⟩ := gd1 hb
    exact .inl ⟨x1.T, x1.rest, f, by omega, Nat.le_refl _, h2, by omega, n1.on (fun i hi hl => ⟨⟨by omega, by omega⟩, (below_new0 w1 _).block i hl⟩), r1.keep G1⟩
  | true =>
    rw [hb] at h2
    exact .inr ⟨(bd1 hb).keep G1, loop_bad h2⟩
 case round =>
  obtain ⟨o, s, p, m, KX, st, KR, SR, h⟩ := hrel
  clear h2 gd1 bd1 G1 K1 S1
  have hlr := KX.lt
  have hbg : w1.heap.size ≠ g := by omega
  have hrg : w.heap.size ≠ g := by omega
  have hrb : w.heap.size ≠ w1.heap.size := by omega
  have hXb : X ≠ w1.heap.size := by omega
  have hXr : X ≠ w.heap.size := by omega
  have stop : ∀ w2, Below wr.heap.size wr w2 → (r.bad = false → NL (fun i => w.heap.size < i ∧ i ≠ w1.heap.size) wr r.T o s p m ∧ RS N g wr r.rest) → (r.bad = true → RB g wr) → Known w2 w1.heap.size 108 #[.string o, .string s, .slice p m m] ∧ Known w2 w.heap.size 108 #[.string ⟨#[]⟩, .string ⟨#[]⟩, .slice none 0 0]
    ∧ Ans N g w r (.returned (.agg #[.string o, .string s, .slice p m m])) (((w2.setCell ⟨w.heap.size, 0, none⟩ (.string o)).setCell ⟨w.heap.size, 1, none⟩ (.string s)).setCell ⟨w.heap.size, 2, none⟩ (.slice p m m)) := by
   intro w2 hb2 hg2 hbad2
   have hlw := hb2.size
   have BZ : Below (g + 1) w2 (((w2.setCell ⟨w.heap.size, 0, none⟩ (.string o)).setCell ⟨w.heap.size, 1, none⟩ (.string s)).setCell ⟨w.heap.size, 2, none⟩ (.slice p m m)) := (((Below.refl (g + 1) w2).setCell (p := ⟨w.heap.size, 0, none⟩) (by show _ ≤ w.heap.size; omega) _).setCell (p := ⟨w.heap.size, 1, none⟩) (by show _ ≤ w.heap.size; omega) _).setCell (p := ⟨w.heap.size, 2, none⟩) (by show _ ≤ w.heap.size; omega) _
   have BY := (hb2.mono (show g + 1 ≤ wr.heap.size by omega)).trans BZ
   refine ⟨KX.on hb2, KR.on hb2, o, s, p, m, rfl, ?_, fun h => ⟨?_, (hg2 h).2.keep BY⟩, fun h => (hbad2 h).keep BY⟩
   ·exact (((st.trans (Step.of_below hb2 (by omega))).far (Nat.le_refl _) (by omega) _).far (Nat.le_refl _) (by omega) _).far (Nat.le_refl _) (by omega) _
   ·have hne : ∀ i, (w.heap.size < i ∧ i ≠ w1.heap.size) → i ≠ w.heap.size := fun i hi => by omega
    exact (((((hg2 h).1.on (q' := fun i => w.heap.size < i ∧ i ≠ w1.heap.size) (fun i hi hl => ⟨hi, hb2.block i hl⟩)).put hne).put hne).put hne).mono (fun i hi => by omega)
  rcases h with ⟨a, ts, k, hkq, hkf, hP, htl, ly, rs⟩ | ⟨rb, hrb2⟩
  ·have hI := is_any g X (Form.ops n) ts wr hol SR (by omega) rs
   cases k with
   | zero => simp [Form.P] at hP
   | succ k =>
     rw [Form.P] at hP
     cases htk : Form.take (Form.ops n) ts with
     | none =>
       rw [htk] at hP hI
       simp only [Option.some.injEq] at hP
       have stop2 := fun w2 hb => stop w2 hb (fun _ => by rw [← hP]; exact ⟨ly, rs⟩) (fun h => by rw [← hP] at h; cases h)
       rw [← Hm.out] at hI
       clear stop hP htk SR KX KR ly rs hO1
       go_wp2_with fail
       refine hI.mono ?_
       rintro e w2 ⟨rfl, hb2⟩
       obtain ⟨KX, KR, hA⟩ := stop2 w2 hb2
       obtain ⟨x0, x1, x2⟩ := KX.three
       have f0 := KR.free 0
       have f1 := KR.free 1
       have f2 := KR.free 2
       obtain ⟨r0, r1, r2⟩ := KR.three
       obtain ⟨z0, z1, z2⟩ := (((KR.put 0 (.string o)).put 1 (.string s)).put 2 (.slice p m m)).three
       clear stop2 hI
       go_wp2_with fail
       exact bodyPost_ret (v := .agg #[.string o, .string s, .slice p m m]) (by simp [results, Tryz.results142, go_sem, z0, z1, z2]) rfl hA
     | some y =>
       obtain ⟨op, r2⟩ := y
       rw [htk] at hP hI
       simp only [Bool.false_eq_true, if_false] at hP
       obtain ⟨hrl, -, hts⟩ := Form.take_len htk
       subst hts
       cases hsub : Form.P k (.lv (n + 1)) r2 false with
       | none => rw [hsub] at hP; cases hP
       | some y =>
         rw [hsub] at hP
         simp only at hP
         rw [← Hm.out] at hI
         have hO2 : ∀ w0, RS N g w0 r2 → Calls Tryz.prog 142 #[.pointer (some ⟨g, 0, none⟩), .int .i64 (IntKind.i64.wrap ((n : Int) + 1))] w0 (Ans N g w0 y) := by
          rw [show IntKind.i64.wrap ((n : Int) + 1) = (n : Int) + 1 by rcases hn with rfl | rfl | rfl | rfl | rfl <;> rfl]
          exact fun w0 => hO1 r2 y w0 (Form.P_le (by omega) hsub) (by omega)
         have hle := Form.P_len _ _ _ _ _ hsub
         clear stop hO1 hsub htk
         go_wp2_with fail
         refine hI.mono ?_
         rintro e w2 ⟨rfl, hb2⟩
         have hT2 := takeRef_any g op r2 w2 (rs.below hb2)
         clear hI
         go_wp2_with fail
         refine hT2.mono ?_
         rintro e w3 ⟨rfl, st3, rs3⟩
         have st2 := Step.of_below (g := g) hb2 (by omega)
         have st23 := st2.trans st3
         have z3 := st23.below.size
         have K3 := (KX.step st23 hbg).on (Below.refl _ _).drew
         obtain ⟨x0, x1, x2⟩ := K3.three
         have rs4 := rs3.keep (Below.refl (g + 1) w3).drew
         clear hT2 hb2 st2 st3 rs3 rs
         have hkeep : ∀ w4, Step g w3.drew w4 → Known w4 w1.heap.size 108 #[.string o, .string s, .slice p m m] ∧ Known w4 w.heap.size 108 #[.string ⟨#[]⟩, .string ⟨#[]⟩, .slice none 0 0] ∧ Step g w w4 ∧ Strs w4 X (Form.ops n) ∧ NL (fun i => w.heap.size < i ∧ i ≠ w1.heap.size) w4 a o s p m := by
          intro w4 st4
          have st9 := (st23.drew).trans st4
          exact ⟨KX.step st9 hbg, KR.step st9 hrg, st.trans st9, SR.step st9 (by omega) (by omega), ly.step st9 (fun i hi => by omega)⟩
         have z4 : w3.drew.heap.size = w3.heap.size := rfl
         clear KR SR ly st23 st K3
         go_upto_region 9 with fail
         go_region_with (go_at_call 142; (with_reducible refine (hO2 _ rs4).mono ?_); rintro e w4 ⟨o2, s2, p2, m2, rfl, st4, gd4, bd4⟩; obtain ⟨K4, KR4, st5, S4, ly4⟩ := hkeep w4 st4; obtain ⟨y0, y1, y2⟩ := K4.three; have f0 := K4.free 0; have f1 := K4.free 1; have f2 := K4.free 2; have z5 := st4.below.size; have zlt : w1.heap.size < w4.heap.size := K4.lt; have zne : w1.heap.size ≠ w4.heap.size := Nat.ne_of_lt zlt)
         all_goals
          have BY := fun (B : Obj) (u0 u1 u2 : Value) => ((((Below.refl (g + 1) w4).setCell (p := ⟨w1.heap.size, 0, none⟩) (show g + 1 ≤ w1.heap.size by omega) u0).setCell (p := ⟨w1.heap.size, 1, none⟩) (show g + 1 ≤ w1.heap.size by omega) u1).setCell (p := ⟨w1.heap.size, 2, none⟩) (show g + 1 ≤ w1.heap.size by omega) u2).alloc (by simp; omega) B
          have hqb : ∀ i, (w.heap.size < i ∧ i ≠ w1.heap.size) → i ≠ w1.heap.size := fun i hi => hi.2
          clear y0 y1 y2 x0 x1 x2 f0 f1 f2 hO2 hkeep
          go_wp2_with fail
          go_roundg (k + 1)
          case measure => omega
          case rel =>
           refine ⟨op, ⟨#[]⟩, some ⟨w4.heap.size, 0, none⟩, 2, (((K4.put 0 _).put 1 _).put 2 _).alloc _, (((st5.far (show w.heap.size ≤ w1.heap.size by omega) (by omega) _).far (show w.heap.size ≤ w1.heap.size by omega) (by omega) _).far (show w.heap.size ≤ w1.heap.size by omega) (by omega) _).alloc (by simp; omega) _,
            (((KR4.far hrb _).far hrb _).far hrb _).alloc _, (((S4.far hXb _).far hXb _).far hXb _).alloc (by simp; omega) _, ?_⟩
           cases hb : y.bad with
           | false =>
             rw [hb] at hP
             obtain ⟨ny, ry⟩ := gd4 hb
             refine .inl ⟨.bin op a y.T, y.rest, k, by omega, by omega, hP, by simp at htl; omega, NL.bin (q := fun i => w.heap.size < i ∧ i ≠ w1.heap.size) ⟨by omega, Ne.symm zne⟩ (made_at (by simp) _ _) ((((ly4.put hqb).put hqb).put hqb).alloc _)
              (((((ny.on (w' := w4) (q' := fun i => w.heap.size < i ∧ i ≠ w1.heap.size) (fun i hi hl => ⟨⟨by omega, by omega⟩, rfl⟩)).put hqb).put hqb).put hqb).alloc _), ry.keep (BY _ _ _ _)⟩
           | true =>
             rw [hb] at hP
             exact .inr ⟨(bd4 hb).keep (BY _ _ _ _), loop_bad hP⟩
  ·have hI := is_bad g (.slice (some ⟨X, 0, none⟩) (Form.ops n).length (Form.ops n).length) wr rb
   have stop2 := fun w2 hb => stop w2 hb (fun h => by rw [hrb2] at h; cases h) (fun _ => rb)
   rw [← Hm.out] at hI
   clear stop SR KX KR rb hO1
   go_wp2_with fail
   refine hI.mono ?_
   rintro e w2 ⟨rfl, hb2⟩
   obtain ⟨KX, KR, hA⟩ := stop2 w2 hb2
   obtain ⟨x0, x1, x2⟩ := KX.three
   have f0 := KR.free 0
   have f1 := KR.free 1
   have f2 := KR.free 2
   obtain ⟨r0, r1, r2⟩ := KR.three
   obtain ⟨z0, z1, z2⟩ := (((KR.put 0 (.string o)).put 1 (.string s)).put 2 (.slice p m m)).three
   clear stop2 hI
   go_wp2_with fail
   exact bodyPost_ret (v := .agg #[.string o, .string s, .slice p m m]) (by simp [results, Tryz.results142, go_sem, z0, z1, z2]) rfl hA
variable {N : Nat}
def RdR (N : Nat) (F : FuncId) (f n : Nat) : Prop := ∀ (g : Nat) (ts : List ByteArray) (r : Form.Res) (w : World), Form.P f (.lv n) ts false = some r → ts.length ≤ 1000 → RS N g w ts →
 Calls Tryz.prog F #[.pointer (some ⟨g, 0, none⟩)] w (Ans N g w r)
theorem ans_put {g : Nat} {w W w1 : World} {r : Form.Res} {o s : ByteArray} {p : Option Addr} {n : Nat} (hg : g < w.heap.size) (hW : Below w.heap.size w W) (hz : w.heap.size < W.heap.size) (h : Step g W w1)
  (gd : r.bad = false → NL (fun i => W.heap.size ≤ i) w1 r.T o s p n ∧ RS N g w1 r.rest) (bd : r.bad = true → RB g w1) :
  Ans N g w r (.returned (.agg #[.string o, .string s, .slice p n n])) (((w1.setCell ⟨w.heap.size, 0, none⟩ (.string o)).setCell ⟨w.heap.size, 1, none⟩ (.string s)).setCell ⟨w.heap.size, 2, none⟩ (.slice p n n)) := by
 have st := (Step.of_below hW (Nat.le_of_lt hg)).trans h
 have BZ : Below (g + 1) w1 (((w1.setCell ⟨w.heap.size, 0, none⟩ (.string o)).setCell ⟨w.heap.size, 1, none⟩ (.string s)).setCell ⟨w.heap.size, 2, none⟩ (.slice p n n)) := (((Below.refl (g + 1) w1).setCell (p := ⟨w.heap.size, 0, none⟩) (show g + 1 ≤ w.heap.size by omega) _).setCell (p := ⟨w.heap.size, 1, none⟩) (show g + 1 ≤ w.heap.size by omega) _).setCell (p := ⟨w.heap.size, 2, none⟩) (show g + 1 ≤ w.heap.size by omega) _
 have hq : ∀ i, W.heap.size ≤ i → i ≠ w.heap.size := fun i hi => by omega
 exact ⟨o, s, p, n, rfl, ((st.far (Nat.le_refl _) (by omega) _).far (Nat.le_refl _) (by omega) _).far (Nat.le_refl _) (by omega) _, fun h => ⟨((((gd h).1.put hq).put hq).put hq).mono (fun i hi => by omega), (gd h).2.keep BZ⟩, fun h => (bd h).keep BZ⟩
theorem ans_bin {g : Nat} {w w4 : World} {y : Form.Res} {a : Form.Tree} {op o s o2 s2 : ByteArray} {p p2 : Option Addr} {m m2 : Nat} (hg : g < w.heap.size) (hz : w.heap.size < w4.heap.size) (st : Step g w w4) (lx : NL (fun i => w.heap.size < i) w4 a o s p m)
  (gd : y.bad = false → NL (fun i => w.heap.size < i) w4 y.T o2 s2 p2 m2 ∧ RS N g w4 y.rest) (bd : y.bad = true → RB g w4) :
  Ans N g w ⟨.bin op a y.T, y.rest, y.bad⟩ (.returned (.agg #[.string op, .string ⟨#[]⟩, .slice (some ⟨w4.heap.size, 0, none⟩) 2 2]))
   ((((w4.setCell ⟨w.heap.size, 0, none⟩ (.string op)).setCell ⟨w.heap.size, 1, none⟩ (.string ⟨#[]⟩)).setCell ⟨w.heap.size, 2, none⟩ (.slice (some ⟨w4.heap.size, 0, none⟩) 2 2)).alloc (.cells #[.string o, .string s, .slice p m m, .string o2, .string s2, .slice p2 m2 m2] 108)) := by
 have BZ := fun (B : Obj) (u0 u1 u2 : Value) => ((((Below.refl (g + 1) w4).setCell (p := ⟨w.heap.size, 0, none⟩) (show g + 1 ≤ w.heap.size by omega) u0).setCell (p := ⟨w.heap.size, 1, none⟩) (show g + 1 ≤ w.heap.size by omega) u1).setCell (p := ⟨w.heap.size, 2, none⟩) (show g + 1 ≤ w.heap.size by omega) u2).alloc (by simp; omega) B
 have hq : ∀ i, w.heap.size < i → i ≠ w.heap.size := fun i hi => by omega
 refine ⟨op, ⟨#[]⟩, some ⟨w4.heap.size, 0, none⟩, 2, rfl, (((st.far (Nat.le_refl _) (by omega) _).far (Nat.le_refl _) (by omega) _).far (Nat.le_refl _) (by omega) _).alloc (by simp; omega) _, fun h => ⟨?_, (gd h).2.keep (BZ _ _ _ _)⟩, fun h => (bd h).keep (BZ _ _ _ _)⟩
 exact (NL.bin (q := fun i => w.heap.size < i) hz (made_at (by simp) _ _) ((((lx.put hq).put hq).put hq).alloc _) (((((gd h).1.put hq).put hq).put hq).alloc _)).mono (fun i hi => by omega)
theorem ans_un {g : Nat} {w w4 : World} {y : Form.Res} {b : Bool} {rest : List ByteArray} {op o2 s2 : ByteArray} {p2 : Option Addr} {m2 : Nat} (hg : g < w.heap.size) (hz : w.heap.size < w4.heap.size) (st : Step g w w4)
  (gd : b = false → NL (fun i => w.heap.size < i) w4 y.T o2 s2 p2 m2 ∧ RS N g w4 rest) (bd : b = true → RB g w4) :
  Ans N g w ⟨.un op y.T, rest, b⟩ (.returned (.agg #[.string op, .string ⟨#[]⟩, .slice (some ⟨w4.heap.size, 0, none⟩) 1 1]))
   ((((w4.setCell ⟨w.heap.size, 0, none⟩ (.string op)).setCell ⟨w.heap.size, 1, none⟩ (.string ⟨#[]⟩)).setCell ⟨w.heap.size, 2, none⟩ (.slice (some ⟨w4.heap.size, 0, none⟩) 1 1)).alloc (.cells #[.string o2, .string s2, .slice p2 m2 m2] 108)) := by
 have BZ := fun (B : Obj) (u0 u1 u2 : Value) => ((((Below.refl (g + 1) w4).setCell (p := ⟨w.heap.size, 0, none⟩) (show g + 1 ≤ w.heap.size by omega) u0).setCell (p := ⟨w.heap.size, 1, none⟩) (show g + 1 ≤ w.heap.size by omega) u1).setCell (p := ⟨w.heap.size, 2, none⟩) (show g + 1 ≤ w.heap.size by omega) u2).alloc (by simp; omega) B
 have hq : ∀ i, w.heap.size < i → i ≠ w.heap.size := fun i hi => by omega
 refine ⟨op, ⟨#[]⟩, some ⟨w4.heap.size, 0, none⟩, 1, rfl, (((st.far (Nat.le_refl _) (by omega) _).far (Nat.le_refl _) (by omega) _).far (Nat.le_refl _) (by omega) _).alloc (by simp; omega) _, fun h => ⟨?_, (gd h).2.keep (BZ _ _ _ _)⟩, fun h => (bd h).keep (BZ _ _ _ _)⟩
 exact (NL.un (q := fun i => w.heap.size < i) hz (made_at (by simp) _ _) (((((gd h).1.put hq).put hq).put hq).alloc _)).mono (fun i hi => by omega)
theorem is_at (g z : Nat) (l ts : List ByteArray) (w : World) (t : TypeId) (hz : w.heap.size = z) (hl : l.length ≤ 10) (h : RS N g w ts) :
  Calls Tryz.prog 199 #[.pointer (some ⟨g, 0, none⟩), .slice (some ⟨z, 0, none⟩) l.length l.length] (w.alloc (.cells (l.map Value.string).toArray t)) fun e w' => e = .returned (.bool (Form.take l ts).isSome) ∧ Below w.heap.size w w' := by
 subst hz
 refine (is_any g w.heap.size l ts _ hl (Strs.made w t l) (by simp) (h.below (below_new0 _ _))).mono ?_
 rintro e w' ⟨rfl, hb⟩
 exact ⟨rfl, (below_new0 w _).trans (hb.mono (by simp))⟩
theorem is_atbad (g z : Nat) (l : List ByteArray) (w : World) (t : TypeId) (hz : w.heap.size = z) (h : RB g w) :
  Calls Tryz.prog 199 #[.pointer (some ⟨g, 0, none⟩), .slice (some ⟨z, 0, none⟩) l.length l.length] (w.alloc (.cells (l.map Value.string).toArray t)) fun e w' => e = .returned (.bool false) ∧ Below w.heap.size w w' := by
 refine (is_bad g _ _ (h.below (below_new0 _ _))).mono ?_
 rintro e w' ⟨rfl, hb⟩
 exact ⟨rfl, (below_new0 w _).trans (hb.mono (by simp))⟩
theorem is_after (g z : Nat) (l : List ByteArray) (w : World) (t : TypeId) (rest : List ByteArray) (b : Bool) (hz : w.heap.size = z) (hl : l.length ≤ 10) (hg : b = false → RS N g w rest) (hb : b = true → RB g w) :
  Calls Tryz.prog 199 #[.pointer (some ⟨g, 0, none⟩), .slice (some ⟨z, 0, none⟩) l.length l.length] (w.alloc (.cells (l.map Value.string).toArray t)) fun e w' => e = .returned (.bool (!b && (Form.take l rest).isSome)) ∧ Below w.heap.size w w' := by
 cases b with
 | false => exact is_at g z l rest w t hz hl (hg rfl)
 | true => exact is_atbad g z l w t hz (hb rfl)
theorem lev_cmp (f : Nat) (h : RdR N 197 f 2) : Lev N f 2 := by
 intro g ts r w hP hl hs
 show Calls Tryz.prog 142 #[.pointer (some ⟨g, 0, none⟩), .int .i64 2] w (Ans N g w r)
 have h1 := h g ts r (w.alloc (.cells #[.string ⟨#[]⟩, .string ⟨#[]⟩, .slice none 0 0] 108)) hP hl (hs.below (below_new0 _ _))
 have hg := hs.lt
 clear h hP hs
 go_enter Tryz.func142, Tryz.ntmps142
 go_wp2_with fail
 refine h1.mono ?_
 rintro e w1 ⟨o, s, p, m, rfl, st, gd, bd⟩
 have KR := (Known.made w 108 #[.string ⟨#[]⟩, .string ⟨#[]⟩, .slice none 0 0]).step st (by omega)
 have f0 := KR.free 0
 have f1 := KR.free 1
 have f2 := KR.free 2
 obtain ⟨r0, r1, r2⟩ := KR.three
 obtain ⟨z0, z1, z2⟩ := (((KR.put 0 (.string o)).put 1 (.string s)).put 2 (.slice p m m)).three
 clear h1 KR
 go_wp2_with fail
 exact bodyPost_ret (v := .agg #[.string o, .string s, .slice p m m]) (by simp [results, Tryz.results142, go_sem, z0, z1, z2]) rfl (ans_put hg (below_new0 w _) (by simp) st gd bd)
theorem lev_un (f : Nat) (h : RdR N 198 f 6) : Lev N f 6 := by
 intro g ts r w hP hl hs
 show Calls Tryz.prog 142 #[.pointer (some ⟨g, 0, none⟩), .int .i64 6] w (Ans N g w r)
 have h1 := h g ts r (w.alloc (.cells #[.string ⟨#[]⟩, .string ⟨#[]⟩, .slice none 0 0] 108)) hP hl (hs.below (below_new0 _ _))
 have hg := hs.lt
 clear h hP hs
 go_enter Tryz.func142, Tryz.ntmps142
 go_wp2_with fail
 refine h1.mono ?_
 rintro e w1 ⟨o, s, p, m, rfl, st, gd, bd⟩
 have KR := (Known.made w 108 #[.string ⟨#[]⟩, .string ⟨#[]⟩, .slice none 0 0]).step st (by omega)
 have f0 := KR.free 0
 have f1 := KR.free 1
 have f2 := KR.free 2
 obtain ⟨r0, r1, r2⟩ := KR.three
 obtain ⟨z0, z1, z2⟩ := (((KR.put 0 (.string o)).put 1 (.string s)).put 2 (.slice p m m)).three
 clear h1 KR
 go_wp2_with fail
 exact bodyPost_ret (v := .agg #[.string o, .string s, .slice p m m]) (by simp [results, Tryz.results142, go_sem, z0, z1, z2]) rfl (ans_put hg (below_new0 w _) (by simp) st gd bd)
set_option maxRecDepth 20000 in
theorem cmp_step (f : Nat) (hO : Lev N f 3) : RdR N 197 (f + 1) 2 := by
 intro g ts r w hP hl hs
 rw [Form.P, if_pos rfl] at hP
 cases hx : Form.P f (.lv 3) ts false with
 | none => rw [hx] at hP; cases hP
 | some x =>
   rw [hx] at hP
   simp only at hP
   have hle := Form.P_len _ _ _ _ _ hx
   have h1 : Calls Tryz.prog 142 #[.pointer (some ⟨g, 0, none⟩), .int .i64 3] _ _ := hO g ts x (w.alloc (.cells #[.string ⟨#[]⟩, .string ⟨#[]⟩, .slice none 0 0] 108)) hx hl (hs.below (below_new0 _ _))
   have hg := hs.lt
   obtain ⟨bb, hbb⟩ : ∃ bb, bb = (!x.bad && (Form.take Form.cmpOps x.rest).isSome) := ⟨_, rfl⟩
   have Hb := Lib.hid hbb
   clear hbb hs
   go_enter Tryz.func197, Tryz.ntmps197
   go_wp2_with fail
   refine h1.mono ?_
   rintro e w1 ⟨o, s, p, m, rfl, st, gd, bd⟩
   have zw := st.below.size
   simp only [alloc_size0] at zw
   have hne : w.heap.size ≠ g := by omega
   have KR := (Known.made w 108 #[.string ⟨#[]⟩, .string ⟨#[]⟩, .slice none 0 0]).step st hne
   have BX := below_new0 w1 (.cells #[.string o, .string s, .slice p m m] 108)
   have hI := is_after g (w1.heap.size + 1) Form.cmpOps (w1.alloc (.cells #[.string o, .string s, .slice p m m] 108)) 9 x.rest x.bad (by simp) (by decide) (fun h => (gd h).2.below BX) (fun h => (bd h).below BX)
   rw [← Hb.out] at hI
   have KX := Known.made w1 108 #[.string o, .string s, .slice p m m]
   have KR1 := KR.alloc (.cells #[.string o, .string s, .slice p m m] 108)
   clear h1 KR
   go_wp2_with fail
   refine hI.mono ?_
   rintro e w2 ⟨rfl, hb2⟩
   replace KX := KX.on hb2
   replace KR1 := KR1.on hb2
   have B12 := BX.trans (hb2.mono (by simp))
   have st2 := st.trans (Step.of_below B12 (by omega))
   have zw2 := B12.size
   clear hI hb2 BX
   cases bb with
   | false =>
     have gd2 : r.bad = false → NL (fun i => (w.alloc (.cells #[.string ⟨#[]⟩, .string ⟨#[]⟩, .slice none 0 0] 108)).heap.size ≤ i) w2 r.T o s p m ∧ RS N g w2 r.rest := by
      intro h
      have hxb : x.bad = false := by
       cases hxb : x.bad with
       | false => rfl
       | true =>
         rw [hxb] at hP
         cases ht : Form.take Form.cmpOps x.rest with
         | none => rw [ht] at hP; simp only [Option.some.injEq] at hP; rw [← hP, hxb] at h; cases h
         | some y =>
           rw [ht] at hP
           simp only at hP
           cases hy : Form.P f (.lv 3) y.2 true with
           | none => rw [hy] at hP; cases hP
           | some z => rw [hy] at hP; simp only [Option.some.injEq] at hP; rw [← hP] at h; rw [Form.P_bad _ _ _ _ hy] at h; cases h
      have ht : Form.take Form.cmpOps x.rest = none := by
       have := Hb.out
       rw [hxb] at this
       cases ht : Form.take Form.cmpOps x.rest with
       | none => rfl
       | some y => rw [ht] at this; cases this
      rw [ht] at hP
      simp only [Option.some.injEq] at hP
      rw [← hP]
      exact ⟨(gd hxb).1.on (fun i hi hl => ⟨hi, B12.block i hl⟩), (gd hxb).2.below B12⟩
     have bd2 : r.bad = true → RB g w2 := by
      intro h
      have hxb : x.bad = true := by
       cases hxb : x.bad with
       | true => rfl
       | false =>
         have := Hb.out
         rw [hxb] at this
         cases ht : Form.take Form.cmpOps x.rest with
         | none => rw [ht] at hP; simp only [Option.some.injEq] at hP; rw [← hP, hxb] at h; cases h
         | some y => rw [ht] at this; cases this
      exact (bd hxb).below B12
     obtain ⟨x0, x1, x2⟩ := KX.three
     have f0 := KR1.free 0
     have f1 := KR1.free 1
     have f2 := KR1.free 2
     obtain ⟨r0, r1, r2⟩ := KR1.three
     obtain ⟨z0, z1, z2⟩ := (((KR1.put 0 (.string o)).put 1 (.string s)).put 2 (.slice p m m)).three
     clear KX KR1 hP gd bd B12 hO
     go_wp2_with fail
     exact bodyPost_ret (v := .agg #[.string o, .string s, .slice p m m]) (by simp [results, Tryz.results197, go_sem, z0, z1, z2]) rfl (ans_put hg (below_new0 w _) (by simp) st2 gd2 bd2)
   | true =>
     have hxb : x.bad = false := by
      have := Hb.out
      cases hxb : x.bad with
      | false => rfl
      | true => rw [hxb] at this; cases this
     obtain ⟨q, ht⟩ : ∃ q, Form.take Form.cmpOps x.rest = some q := by
      have := Hb.out
      cases ht : Form.take Form.cmpOps x.rest with
      | some y => exact ⟨y, rfl⟩
      | none => rw [ht] at this; simp at this
     obtain ⟨op, r2⟩ := q
     rw [ht, hxb] at hP
     simp only at hP
     obtain ⟨hrl, -, hts⟩ := Form.take_len ht
     cases hy : Form.P f (.lv 3) r2 false with
     | none => rw [hy] at hP; cases hP
     | some y =>
       rw [hy] at hP
       simp only [Option.some.injEq] at hP
       have hO2 : ∀ w0, RS N g w0 r2 → Calls Tryz.prog 142 #[.pointer (some ⟨g, 0, none⟩), .int .i64 3] w0 (Ans N g w0 y) := fun w0 => hO g r2 y w0 hy (by omega)
       obtain ⟨nx, rx⟩ := gd hxb
       rw [hts] at rx
       have hT2 := takeRef_any g op r2 w2 (rx.below B12)
       replace nx : NL (fun i => w.heap.size < i) w2 x.T o s p m := nx.on (fun i hi hl => ⟨by simp only [alloc_size0] at hi; omega, B12.block i hl⟩)
       clear hO hx hy gd bd B12 rx
       go_wp2_with fail
       refine hT2.mono ?_
       rintro e w3 ⟨rfl, st3, rs3⟩
       have z3 := st3.below.size
       have hbg : w1.heap.size ≠ g := by omega
       have K3 := (KX.step st3 hbg).on (Below.refl _ _).drew
       obtain ⟨x0, x1, x2⟩ := K3.three
       have rs4 := rs3.keep (Below.refl (g + 1) w3).drew
       have hkeep : ∀ w4, Step g w3.drew w4 → Known w4 w1.heap.size 108 #[.string o, .string s, .slice p m m] ∧ Known w4 w.heap.size 108 #[.string ⟨#[]⟩, .string ⟨#[]⟩, .slice none 0 0] ∧ Step g w w4 ∧ NL (fun i => w.heap.size < i) w4 x.T o s p m := by
        intro w4 st4
        have st9 := (st3.drew).trans st4
        exact ⟨KX.step st9 hbg, KR1.step st9 hne, ((Step.of_below (below_new0 w _) (by omega)).trans st2).trans st9, nx.step st9 (fun i hi => by omega)⟩
       have z4 : w3.drew.heap.size = w3.heap.size := rfl
       clear KX KR1 nx st2 st3 st K3 hT2 rs3
       go_upto_region 4 with fail
       go_region_with (go_at_call 142; (with_reducible refine (hO2 _ rs4).mono ?_); rintro e w4 ⟨o2, s2, p2, m2, rfl, st4, gd4, bd4⟩; obtain ⟨K4, KR4, st5, ly4⟩ := hkeep w4 st4; obtain ⟨y0, y1, y2⟩ := K4.three; obtain ⟨v0, v1, v2⟩ := KR4.three; have f0 := KR4.free 0; have f1 := KR4.free 1; have f2 := KR4.free 2; have z5 := st4.below.size; have zlt : w1.heap.size < w4.heap.size := K4.lt; have zlr : w.heap.size < w4.heap.size := KR4.lt; have zne : w.heap.size ≠ w4.heap.size := Nat.ne_of_lt zlr)
       all_goals
        obtain ⟨c0, c1, c2⟩ := ((((KR4.put 0 (.string op)).put 1 (.string ⟨#[]⟩)).put 2 (.slice (some ⟨w4.heap.size, 0, none⟩) 2 2)).alloc (.cells #[.string o, .string s, .slice p m m, .string o2, .string s2, .slice p2 m2 m2] 108)).three
        have hA := ans_bin (op := op) hg zlr st5 ly4 (fun h => ⟨(gd4 h).1.mono (fun i hi => by omega), (gd4 h).2⟩) bd4
        clear y0 y1 y2 v0 v1 v2 x0 x1 x2 f0 f1 f2 hO2 hkeep KR4 K4 ly4 gd4 bd4
        rw [hP] at hA
        go_wp2_with fail
        exact bodyPost_ret (v := .agg #[.string op, .string ⟨#[]⟩, .slice (some ⟨w4.heap.size, 0, none⟩) 2 2]) (by simp [results, Tryz.results197, go_sem, c0, c1, c2]) rfl hA
def DepR (w : World) (o s : ByteArray) (p : Option Addr) (m : Nat) (k : Nat) : Prop := ∀ w0, Below w.heap.size w w0 → Calls Tryz.prog 88 #[.agg #[.string o, .string s, .slice p m m]] w0 fun e w' => e = .returned (.int .i64 k) ∧ Below w0.heap.size w0 w'
theorem depth_num (o s : ByteArray) (w : World) : Calls Tryz.prog 88 #[.agg #[.string o, .string s, .slice none 0 0]] w fun e w' => e = .returned (.int .i64 1) ∧ Below w.heap.size w w' := by
 go_enter Tryz.func88, Tryz.ntmps88
 go_wp2_with fail
 go_loopg [3, 4] 1 (fun q s3 s4 wr => s3 = .int .i64 0 ∧ s4 = .int .i64 0 ∧ wr = w.alloc (.cells #[.string o, .string s, .slice none 0 0] 108))
 case atStart => exact ⟨rfl, rfl, rfl⟩
 case round =>
  obtain ⟨rfl, rfl, rfl⟩ := hrel
  go_wp2_with fail
  go_ret
  exact ⟨rfl, below_new0 _ _⟩
theorem depth_un (o s o1 s1 : ByteArray) (p1 : Option Addr) (m1 i k : Nat) (w : World) (K : Known w i 108 #[.string o1, .string s1, .slice p1 m1 m1]) (hk : k ≤ 1000) (hD : DepR w o1 s1 p1 m1 k) :
  Calls Tryz.prog 88 #[.agg #[.string o, .string s, .slice (some ⟨i, 0, none⟩) 1 1]] w fun e w' => e = .returned (.int .i64 ((1 + k : Nat) : Int)) ∧ Below w.heap.size w w' := by
 have hi := K.lt
 have B0 := below_new0 w (.cells #[.string o, .string s, .slice (some ⟨i, 0, none⟩) 1 1] 108)
 have KM := Known.made w 108 #[.string o, .string s, .slice (some ⟨i, 0, none⟩) 1 1]
 go_enter Tryz.func88, Tryz.ntmps88
 go_wp2_with fail
 go_loopg [3, 4] 2 (fun q s3 s4 wr => ∃ j : Nat, j ≤ 1 ∧ j + q = 2 ∧ s3 = .int .i64 (if j = 0 then 0 else (k : Int)) ∧ s4 = .int .i64 j ∧ Below w.heap.size w wr ∧ Known wr w.heap.size 108 #[.string o, .string s, .slice (some ⟨i, 0, none⟩) 1 1])
 case atStart => exact ⟨0, by omega, by omega, rfl, rfl, B0, KM⟩
 case round =>
  obtain ⟨j, hj, hjq, rfl, rfl, B, KW⟩ := hrel
  clear KM B0
  obtain ⟨c0, c1, c2⟩ := KW.three
  rcases (show j = 0 ∨ j = 1 by omega) with rfl | rfl
  ·obtain ⟨d0, d1, d2⟩ := (K.on B).three
   have hC := hD wr B
   clear hD
   go_wp2_with fail
   refine hC.mono ?_
   rintro e w2 ⟨rfl, hb⟩
   clear hC
   go_wp2_with fail
   go_roundg 1
   case measure => omega
   case rel => exact ⟨1, by omega, by omega, by simp, rfl, B.trans (hb.mono B.size), KW.on hb⟩
  ·clear hD
   go_wp2_with fail
   go_ret
   exact ⟨by simp; omega, B⟩
theorem depth_bin (o s o1 s1 o2 s2 : ByteArray) (p1 p2 : Option Addr) (m1 m2 i k l : Nat) (w : World) (K : Known w i 108 #[.string o1, .string s1, .slice p1 m1 m1, .string o2, .string s2, .slice p2 m2 m2]) (hk : k ≤ 1000) (hl : l ≤ 1000) (hD : DepR w o1 s1 p1 m1 k) (hE : DepR w o2 s2 p2 m2 l) :
  Calls Tryz.prog 88 #[.agg #[.string o, .string s, .slice (some ⟨i, 0, none⟩) 2 2]] w fun e w' => e = .returned (.int .i64 ((1 + max k l : Nat) : Int)) ∧ Below w.heap.size w w' := by
 have hi := K.lt
 have B0 := below_new0 w (.cells #[.string o, .string s, .slice (some ⟨i, 0, none⟩) 2 2] 108)
 have KM := Known.made w 108 #[.string o, .string s, .slice (some ⟨i, 0, none⟩) 2 2]
 go_enter Tryz.func88, Tryz.ntmps88
 go_wp2_with fail
 go_loopg [3, 4] 3 (fun q s3 s4 wr => ∃ j : Nat, ∃ d : Int, j ≤ 2 ∧ j + q = 3 ∧ (j = 0 → d = 0) ∧ (j = 1 → d = k) ∧ (j = 2 → d = ((max k l : Nat) : Int)) ∧ s3 = .int .i64 d ∧ s4 = .int .i64 j ∧ Below w.heap.size w wr ∧ Known wr w.heap.size 108 #[.string o, .string s, .slice (some ⟨i, 0, none⟩) 2 2])
 case atStart => exact ⟨0, 0, by omega, by omega, fun _ => rfl, by omega, by omega, rfl, rfl, B0, KM⟩
 case round =>
  obtain ⟨j, d, hj, hjq, hd0, hd1, hd2, rfl, rfl, B, KW⟩ := hrel
  clear KM B0
  obtain ⟨c0, c1, c2⟩ := KW.three
  have KB := K.on B
  have d0 := KB.cell 0
  have d1 := KB.cell 1
  have d2 := KB.cell 2
  have d3 := KB.cell 3
  have d4 := KB.cell 4
  have d5 := KB.cell 5
  simp only [List.getElem?_toArray, List.getElem?_cons_zero, List.getElem?_cons_succ] at d0 d1 d2 d3 d4 d5
  clear KB
  rcases (show j = 0 ∨ j = 1 ∨ j = 2 by omega) with rfl | rfl | rfl
  ·obtain rfl := hd0 rfl
   have hC := hD wr B
   clear hD hE hd0 hd1 hd2
   go_wp2_with fail
   refine hC.mono ?_
   rintro e w2 ⟨rfl, hb⟩
   clear hC
   go_wp2_with fail
   go_roundg 2
   case measure => omega
   case rel => exact ⟨1, _, by omega, by omega, by omega, fun _ => by simp, by omega, rfl, rfl, B.trans (hb.mono B.size), KW.on hb⟩
  ·obtain rfl := hd1 rfl
   have hC := hE wr B
   clear hD hE hd0 hd1 hd2
   go_wp2_with fail
   refine hC.mono ?_
   rintro e w2 ⟨rfl, hb⟩
   clear hC
   go_wp2_with fail
   go_roundg 1
   case measure => omega
   case rel => exact ⟨2, _, by omega, by omega, by omega, by omega, fun _ => by first | rfl | (simp; omega) | omega, rfl, rfl, B.trans (hb.mono B.size), KW.on hb⟩
  ·obtain rfl := hd2 rfl
   clear hD hE hd0 hd1 hd2
   go_wp2_with fail
   go_ret
   exact ⟨by simp; omega, B⟩
theorem depth_any (q : Nat → Prop) (T : Form.Tree) : ∀ (o s : ByteArray) (p : Option Addr) (m : Nat) (w : World), NL q w T o s p m → T.levels ≤ 1000 →
  Calls Tryz.prog 88 #[.agg #[.string o, .string s, .slice p m m]] w fun e w' => e = .returned (.int .i64 T.levels) ∧ Below w.heap.size w w' := by
 induction T with
 | num t =>
   rintro o s p m w ⟨rfl, rfl, rfl, rfl⟩ hl
   exact depth_num _ _ w
 | un op a ih =>
   rintro o s p m w ⟨rfl, rfl, rfl, i, rfl, hq, o1, s1, p1, m1, K, h⟩ hl
   simp only [Form.Tree.levels] at hl ⊢
   exact depth_un _ _ o1 s1 p1 m1 i a.levels w K (by omega) (fun w0 hb => ih o1 s1 p1 m1 w0 (h.on (fun i hi hl => ⟨hi, hb.block i hl⟩)) (by omega))
 | bin op a b iha ihb =>
   rintro o s p m w ⟨rfl, rfl, rfl, i, rfl, hq, o1, s1, p1, m1, o2, s2, p2, m2, K, h, h'⟩ hl
   simp only [Form.Tree.levels] at hl ⊢
   have := Nat.le_max_left a.levels b.levels
   have := Nat.le_max_right a.levels b.levels
   exact depth_bin _ _ o1 s1 o2 s2 p1 p2 m1 m2 i a.levels b.levels w K (by omega) (by omega) (fun w0 hb => iha o1 s1 p1 m1 w0 (h.on (fun i hi hl => ⟨hi, hb.block i hl⟩)) (by omega)) (fun w0 hb => ihb o2 s2 p2 m2 w0 (h'.on (fun i hi hl => ⟨hi, hb.block i hl⟩)) (by omega))
end Go.Proofs.YtcklofamaooegaaGreatDoor
