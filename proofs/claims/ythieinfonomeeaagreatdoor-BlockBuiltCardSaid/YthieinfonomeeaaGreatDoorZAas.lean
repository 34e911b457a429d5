/-
  The claim's own texts, packed. Conditions: those typed in each theorem.
-/
import Derived.Test.YthieinfonomeeaaGreatDoorZAar
import Derived.Test.YthieinfonomeeaaGreatDoorZAac
namespace Go.Proofs.YthieinfonomeeaaGreatDoor
open Go.RowKit Doc Tit Inl
set_option linter.unusedVariables false
attribute [local go_sem ↓] Go.wp_at_zero Go.wp_at_succ
def NoteR (i : Nat) (v : Option (Ins × Nat)) (w w' : World) (e : Ending) : Prop :=
 ∃ (a : Int) (tx : ByteArray) (sp : Int) (nm an : ByteArray) (kp : Option Addr) (kn kc : Nat) (kids : Ins) (n : Int),
  e = .returned (.tuple #[.agg #[.int .i64 a, .string tx, .int .i64 sp, .string nm, .string an, .slice kp kn kc], .int .i64 n]) ∧ insS.sl (fun k => w.heap.size ≤ k) w' (.slice kp kn kc) kids ∧
  (match v with
   | none => n = 0
   | some (x, m) => n = ((i + m : Nat) : Int) ∧ x = .cons a tx sp nm an kids .nil)
theorem note_none (i : Nat) (w w' : World) : NoteR i none w w' (.returned (.tuple #[.agg #[.int .i64 0, .string ⟨#[]⟩, .int .i64 0, .string ⟨#[]⟩, .string ⟨#[]⟩, .slice none 0 0], .int .i64 0])) :=
 ⟨_, _, _, _, _, _, _, _, .nil, _, rfl, ins_none, rfl⟩
theorem drop_more (s : ByteArray) (i n : Nat) : s.data.toList.drop (i + n) = (s.data.toList.drop i).drop n := by rw [List.drop_drop]
theorem hp_one (c : UInt8) (l : List UInt8) : Lib.hasPrefix l [c] = decide (l.head? = some c) := by
 cases l with
 | nil => rfl
 | cons a b =>
   show ((c == a) && true) = _
   rw [Bool.and_true, Bool.eq_iff_iff]
   simp only [beq_iff_eq, List.head?_cons, Option.some.injEq, decide_eq_true_eq]
   exact ⟨Eq.symm, Eq.symm⟩
theorem noteC_eq (P : List UInt8 → Ins) (tx l : List UInt8) (n : Nat) : noteC P tx n l = if Lib.index (l.drop n) bEnd = -1 then none else
  if Lib.index ((l.drop n).take (Lib.index (l.drop n) bEnd).toNat) bRef ≠ -1 then none else some (note tx (P ((l.drop n).take (Lib.index (l.drop n) bEnd).toNat)), n + ((l.drop n).take (Lib.index (l.drop n) bEnd).toNat).length + 6) := by
 unfold noteC
 rfl
theorem take_tw' (p : UInt8 → Bool) (l : List UInt8) : l.take (l.takeWhile p).length = l.takeWhile p := by
 induction l with
 | nil => rfl
 | cons a r ih =>
   rw [List.takeWhile_cons]
   cases p a with
   | true => simp [ih]
   | false => rfl
set_option maxRecDepth 20000 in
set_option maxHeartbeats 8000000 in
theorem rnote_any (N : Nat) (ih : RParse N) (s : ByteArray) (i : Nat) (w : World) (hs : s.size ≤ 100000000) (hi : i < s.size) (hN : s.size ≤ N) :
  Calls Tryz.prog 111 #[.string s, .int .i64 i] w fun e w' => NoteR i (noteE read (s.data.toList.drop i)) w w' e ∧ Below w.heap.size w w' := by
 have hz : s.data.toList.length = s.size := by simp
 have hdm := drop_more s i
 obtain ⟨l, hl⟩ : ∃ l, l = s.data.toList.drop i := ⟨_, rfl⟩
 have hll : l.length = s.size - i := by rw [hl, List.length_drop, hz]
 have hA := fun W => at_any s ⟨bRefG.toArray⟩ i W (by omega) (by decide) (by omega)
 have hA2 := fun W => at_any s ⟨bRefN.toArray⟩ i W (by omega) (by decide) (by omega)
 have e0 : ∀ x : List UInt8, (⟨x.toArray⟩ : ByteArray).data.toList = x := fun _ => rfl
 rw [e0, ← hl] at hA hA2
 rw [← hl] at hdm ⊢
 obtain ⟨b1, hb1⟩ : ∃ b, b = Lib.hasPrefix l bRefG := ⟨_, rfl⟩
 obtain ⟨b2, hb2⟩ : ∃ b, b = Lib.hasPrefix l bRefN := ⟨_, rfl⟩
 rw [← hb1] at hA
 rw [← hb2] at hA2
 have hv : noteE read l = if b1 then noteC read [] 5 l else if b2 then
   (if (((l.drop 10).takeWhile word).length < 1 ∨ 30 < ((l.drop 10).takeWhile word).length) then none
    else if Lib.hasPrefix ((l.drop 10).drop ((l.drop 10).takeWhile word).length) [47, 62] then some (note ((l.drop 10).takeWhile word) .nil, ((l.drop 10).takeWhile word).length + 12)
    else if ((l.drop 10).drop ((l.drop 10).takeWhile word).length).head? = some 62 then noteC read ((l.drop 10).takeWhile word) (((l.drop 10).takeWhile word).length + 11) l else none) else none := by
  rw [hb1, hb2]; rfl
 have hp1 : b1 = true → 5 ≤ l.length := fun h => by have := hp_le (hb1.symm.trans h); simpa [bRefG] using this
 have hp2 : b2 = true → 10 ≤ l.length := fun h => by have := hp_le (hb2.symm.trans h); simpa [bRefN] using this
 have HA := Lib.hid hA
 have HA2 := Lib.hid hA2
 have HV := Lib.hid hv
 have HP1 := Lib.hid hp1
 have HP2 := Lib.hid hp2
 have HDM := Lib.hid hdm
 have HL := Lib.hid hl
 have HLL := Lib.hid hll
 have IH := Lib.hid ih
 clear hA hA2 hb1 hb2 hl hv hp1 hp2 hdm ih hll e0
 have hk0 := (Known.made w 56 #[.int .i64 0, .string ⟨#[]⟩, .int .i64 0, .string ⟨#[]⟩, .string ⟨#[]⟩, .slice none 0 0]).alloc (.cells #[.int .i64 5, .string ⟨#[]⟩, .int .i64 0, .string ⟨#[]⟩, .string ⟨#[]⟩, .slice none 0 0] 56)
 have hk1 := Known.made (w.alloc (.cells #[.int .i64 0, .string ⟨#[]⟩, .int .i64 0, .string ⟨#[]⟩, .string ⟨#[]⟩, .slice none 0 0] 56)) 56 #[.int .i64 5, .string ⟨#[]⟩, .int .i64 0, .string ⟨#[]⟩, .string ⟨#[]⟩, .slice none 0 0]
 rw [World.size_alloc] at hk1
 have hbw := below_then (below_new0 w (.cells #[.int .i64 0, .string ⟨#[]⟩, .int .i64 0, .string ⟨#[]⟩, .string ⟨#[]⟩, .slice none 0 0] 56)) (below_new0 _ (.cells #[.int .i64 5, .string ⟨#[]⟩, .int .i64 0, .string ⟨#[]⟩, .string ⟨#[]⟩, .slice none 0 0] 56))
 go_enter Tryz.func111, Tryz.ntmps111
 go_upto_region 3 with fail
 generalize ((w.alloc (.cells #[.int .i64 0, .string ⟨#[]⟩, .int .i64 0, .string ⟨#[]⟩, .string ⟨#[]⟩, .slice none 0 0] 56)).alloc (.cells #[.int .i64 5, .string ⟨#[]⟩, .int .i64 0, .string ⟨#[]⟩, .string ⟨#[]⟩, .slice none 0 0] 56)) = W1 at hk0 hk1 hbw ⊢
 have HK0 := Lib.hid hk0
 have HK1 := Lib.hid hk1
 have HBW := Lib.hid hbw
 clear hk0 hk1 hbw
 go_cut [16] from 13 to 16 (fun s16 wc => s16 = .bool (!b1) ∧ W1 = wc)
 case first =>
  go_wp2_with fail
  refine (HA.out _).mono ?_
  rintro e w1 ⟨rfl, rfl⟩
  go_wp2_with fail
  go_meet
  case rel => exact ⟨by first | rfl | trivial, by first | rfl | trivial⟩
 case rest =>
  obtain ⟨rfl, rfl⟩ := hcut
  go_upto_if 16 with fail
  go_cut [7, 8] from 17 to 48 (fun s7 s8 wc => ∃ (tx : List UInt8) (n : Nat), s7 = .int .i64 ((i + n : Nat) : Int) ∧ i + n ≤ s.size ∧ 1 ≤ n ∧ Known wc (w.heap.size + 1) 56 #[.int .i64 5, .string ⟨tx.toArray⟩, .int .i64 0, .string ⟨#[]⟩, .string ⟨#[]⟩, .slice none 0 0] ∧ Known wc w.heap.size 56 #[.int .i64 0, .string ⟨#[]⟩, .int .i64 0, .string ⟨#[]⟩, .string ⟨#[]⟩, .slice none 0 0] ∧ Below w.heap.size w wc ∧ noteE read l = noteC read tx n l)
  case first =>
   cases b1 with
   | true =>
     have hv : noteE read l = noteC read [] 5 l := by rw [HV.out, if_pos rfl]
     have h5 := HP1.out (by first | rfl | trivial)
     rw [HLL.out] at h5
     have HV1 := Lib.hid hv
     clear hv
     go_wp2_with fail
     go_meet
     case rel => exact ⟨[], 5, by go_num, by omega, by omega, HK1.out, HK0.out, HBW.out, HV1.out⟩
   | false =>
     obtain ⟨z0, z1, z2, z3, z4, z5⟩ := HK0.out.six
     obtain ⟨x0, x1, x2, x3, x4, x5⟩ := HK1.out.six
     have f0 := HK0.out.free 0
     have f1 := HK0.out.free 1
     have f2 := HK0.out.free 2
     have f3 := HK0.out.free 3
     have f4 := HK0.out.free 4
     have f5 := HK0.out.free 5
     have xf1 := HK1.out.free 1
     have zl := HK0.out.lt
     have xl := HK1.out.lt
     have hv : noteE read l = if b2 then
       (if (((l.drop 10).takeWhile word).length < 1 ∨ 30 < ((l.drop 10).takeWhile word).length) then none
        else if Lib.hasPrefix ((l.drop 10).drop ((l.drop 10).takeWhile word).length) [47, 62] then some (note ((l.drop 10).takeWhile word) .nil, ((l.drop 10).takeWhile word).length + 12)
        else if ((l.drop 10).drop ((l.drop 10).takeWhile word).length).head? = some 62 then noteC read ((l.drop 10).takeWhile word) (((l.drop 10).takeWhile word).length + 11) l else none) else none := by rw [HV.out]; rfl
     cases b2 with
     | false =>
       have HV1 := Lib.hid (show noteE read l = none from hv)
       clear hv
       go_wp2_with fail
       refine (HA2.out _).mono ?_
       rintro e w1 ⟨rfl, rfl⟩
       go_wp2_with fail
       have hkz : Known (((((((W1).setCell ⟨w.heap.size, 0, none⟩ (.int .i64 0)).setCell ⟨w.heap.size, 1, none⟩ (.string ⟨#[]⟩)).setCell ⟨w.heap.size, 2, none⟩ (.int .i64 0)).setCell ⟨w.heap.size, 3, none⟩ (.string ⟨#[]⟩)).setCell ⟨w.heap.size, 4, none⟩ (.string ⟨#[]⟩)).setCell ⟨w.heap.size, 5, none⟩ (.slice none 0 0)) w.heap.size 56 #[.int .i64 0, .string ⟨#[]⟩, .int .i64 0, .string ⟨#[]⟩, .string ⟨#[]⟩, .slice none 0 0] := ((((((HK0.out).put 0 (.int .i64 0)).put 1 (.string ⟨#[]⟩)).put 2 (.int .i64 0)).put 3 (.string ⟨#[]⟩)).put 4 (.string ⟨#[]⟩)).put 5 (.slice none 0 0)
       have hbel := ((((((HBW.out).setCell (p := ⟨w.heap.size, 0, none⟩) (Nat.le_refl _) (.int .i64 0)).setCell (p := ⟨w.heap.size, 1, none⟩) (Nat.le_refl _) (.string ⟨#[]⟩)).setCell (p := ⟨w.heap.size, 2, none⟩) (Nat.le_refl _) (.int .i64 0)).setCell (p := ⟨w.heap.size, 3, none⟩) (Nat.le_refl _) (.string ⟨#[]⟩)).setCell (p := ⟨w.heap.size, 4, none⟩) (Nat.le_refl _) (.string ⟨#[]⟩)).setCell (p := ⟨w.heap.size, 5, none⟩) (Nat.le_refl _) (.slice none 0 0)
       obtain ⟨y0, y1, y2, y3, y4, y5⟩ := hkz.six
       refine bodyPost_ret (v := .tuple #[.agg #[.int .i64 0, .string ⟨#[]⟩, .int .i64 0, .string ⟨#[]⟩, .string ⟨#[]⟩, .slice none 0 0], .int .i64 0]) (by simp only [results, Tryz.results111]; simp [go_sem, y0, y1, y2, y3, y4, y5]) rfl ⟨?_, hbel⟩
       rw [HV1.out]
       exact note_none _ _ _
     | true =>
       have h10 := HP2.out (by first | rfl | trivial)
       rw [HLL.out] at h10
       rw [if_pos rfl] at hv
       have hNM := fun W => rname_any s (i + 10) W hs (by omega)
       rw [show ((i + 10 : Nat) : Int) = (i : Int) + 10 by omega] at hNM
       obtain ⟨r, hr⟩ : ∃ r, r = l.drop 10 := ⟨_, rfl⟩
       have hrs : s.data.toList.drop (i + 10) = r := by rw [hr, HDM.out]
       have hrl : r.length = s.size - i - 10 := by rw [hr, List.length_drop, HLL.out]
       have hnl := tw_le word r
       rw [← hr] at hv
       obtain ⟨nm, hnm⟩ : ∃ nm, nm = r.takeWhile word := ⟨_, rfl⟩
       obtain ⟨k, hk⟩ : ∃ k, k = nmEnd s.data.toList (i + 10) := ⟨_, rfl⟩
       rw [← hk] at hNM
       unfold nmEnd at hk
       rw [hrs, ← hnm] at hk
       rw [← hnm] at hv hnl
       have hkb : i + 10 ≤ k ∧ k ≤ s.size := by
        rw [hk]; split <;> omega
       obtain ⟨hk1, hk2⟩ := hkb
       obtain ⟨X, hX⟩ : ∃ X, X = s.extract (i + 10) k := ⟨_, rfl⟩
       have hXd : X.data.toList = r.take (k - (i + 10)) := by rw [hX, Lib.extract_data, hrs]
       have q1 : (i : Int) + 10 ≤ (k : Int) := by omega
       have q2 : (k : Int) ≤ (s.size : Int) := by omega
       have HNM := Lib.hid hNM
       have HVV := Lib.hid hv
       have HK := Lib.hid hk
       have HX := Lib.hid hX
       have HXD := Lib.hid hXd
       have HR := Lib.hid hr
       have HRS := Lib.hid hrs
       have HNMD := Lib.hid hnm
       clear hNM hv hk hX hXd hr hrs hnm
       by_cases hbad : nm.length < 1 ∨ 30 < nm.length
       ·have hke : k = i + 10 := by rw [HK.out]; split <;> omega
        have hXe : X.data.toList = [] := by rw [HXD.out, hke, Nat.sub_self]; rfl
        have g1 := empty_yes hXe
        have hv : noteE read l = none := by rw [HVV.out, if_pos hbad]
        have HV1 := Lib.hid hv
        clear hv hke hXe hbad
        go_wp2_with fail
        refine (HA2.out _).mono ?_
        rintro e w1 ⟨rfl, rfl⟩
        go_wp2_with fail
        refine (HNM.out _).mono ?_
        rintro e w1 ⟨rfl, rfl⟩
        go_upto_region 8 with fail
        rw [← HX.out]
        go_wp2_with fail
        have hkz : Known ((((((((W1.setCell ⟨w.heap.size + 1, 1, none⟩ (.string X))).setCell ⟨w.heap.size, 0, none⟩ (.int .i64 0)).setCell ⟨w.heap.size, 1, none⟩ (.string ⟨#[]⟩)).setCell ⟨w.heap.size, 2, none⟩ (.int .i64 0)).setCell ⟨w.heap.size, 3, none⟩ (.string ⟨#[]⟩)).setCell ⟨w.heap.size, 4, none⟩ (.string ⟨#[]⟩)).setCell ⟨w.heap.size, 5, none⟩ (.slice none 0 0)) w.heap.size 56 #[.int .i64 0, .string ⟨#[]⟩, .int .i64 0, .string ⟨#[]⟩, .string ⟨#[]⟩, .slice none 0 0] := (((((((HK0.out.far (p := ⟨w.heap.size + 1, 1, none⟩) (show w.heap.size ≠ w.heap.size + 1 by omega) (.string X))).put 0 (.int .i64 0)).put 1 (.string ⟨#[]⟩)).put 2 (.int .i64 0)).put 3 (.string ⟨#[]⟩)).put 4 (.string ⟨#[]⟩)).put 5 (.slice none 0 0)
        have hbel := (((((((HBW.out.setCell (p := ⟨w.heap.size + 1, 1, none⟩) (Nat.le_succ _) (.string X))).setCell (p := ⟨w.heap.size, 0, none⟩) (Nat.le_refl _) (.int .i64 0)).setCell (p := ⟨w.heap.size, 1, none⟩) (Nat.le_refl _) (.string ⟨#[]⟩)).setCell (p := ⟨w.heap.size, 2, none⟩) (Nat.le_refl _) (.int .i64 0)).setCell (p := ⟨w.heap.size, 3, none⟩) (Nat.le_refl _) (.string ⟨#[]⟩)).setCell (p := ⟨w.heap.size, 4, none⟩) (Nat.le_refl _) (.string ⟨#[]⟩)).setCell (p := ⟨w.heap.size, 5, none⟩) (Nat.le_refl _) (.slice none 0 0)
        obtain ⟨y0, y1, y2, y3, y4, y5⟩ := hkz.six
        refine bodyPost_ret (v := .tuple #[.agg #[.int .i64 0, .string ⟨#[]⟩, .int .i64 0, .string ⟨#[]⟩, .string ⟨#[]⟩, .slice none 0 0], .int .i64 0]) (by simp only [results, Tryz.results111]; simp [go_sem, y0, y1, y2, y3, y4, y5]) rfl ⟨?_, hbel⟩
        rw [HV1.out]
        exact note_none _ _ _
       ·have hke : k = i + 10 + nm.length := by rw [HK.out, if_neg (by omega)]
        have hXe : X.data.toList = nm := by rw [HXD.out, hke, show i + 10 + nm.length - (i + 10) = nm.length by omega, HNMD.out, take_tw']
        have hne : X.data.toList ≠ [] := fun e => by rw [hXe] at e; rw [e] at hbad; simp at hbad
        have g1 := empty_no hne
        have hXm : X = ⟨nm.toArray⟩ := bytes_ext hXe
        have hsk : s.data.toList.drop k = r.drop nm.length := by rw [hke, ← HRS.out, List.drop_drop]
        have hv : noteE read l = if Lib.hasPrefix (r.drop nm.length) [47, 62] then some (note nm .nil, nm.length + 12)
         else if (r.drop nm.length).head? = some 62 then noteC read nm (nm.length + 11) l else none := by rw [HVV.out, if_neg hbad]
        have hA3 := fun W => at_any s ⟨#[47, 62]⟩ k W (by omega) (by decide) hk2
        have hA4 := fun W => at_any s ⟨#[62]⟩ k W (by omega) (by decide) hk2
        have e3 : (⟨#[47, 62]⟩ : ByteArray).data.toList = [47, 62] := rfl
        have e4 : (⟨#[62]⟩ : ByteArray).data.toList = [62] := rfl
        rw [hsk, e3] at hA3
        rw [hsk, e4] at hA4
        have h62 := hp_one 62 (r.drop nm.length)
        have hk1s : (r.drop nm.length).head? = some 62 → k + 1 ≤ s.size := fun h => by
         rw [← hsk] at h
         have : 0 < (s.data.toList.drop k).length := by
          cases hc : s.data.toList.drop k with
          | nil => rw [hc] at h; cases h
          | cons a b => simp
         rw [List.length_drop, hz] at this; omega
        obtain ⟨b3, hb3⟩ : ∃ b3, b3 = Lib.hasPrefix (r.drop nm.length) [47, 62] := ⟨_, rfl⟩
        obtain ⟨b4, hb4⟩ : ∃ b4, b4 = Lib.hasPrefix (r.drop nm.length) [62] := ⟨_, rfl⟩
        rw [← hb3] at hA3 hv
        rw [← hb4] at hA4
        have hb5 : b4 = decide ((r.drop nm.length).head? = some 62) := by rw [hb4, h62]
        have HA3 := Lib.hid hA3
        have HA4 := Lib.hid hA4
        have HV3 := Lib.hid hv
        have HB5 := Lib.hid hb5
        have HKS := Lib.hid hk1s
        have HXM := Lib.hid hXm
        have HKE := Lib.hid hke
        clear hA3 hA4 hv h62 hb3 hb4 hb5 hk1s hsk hXe hne e3 e4 hbad hXm hke
        go_wp2_with fail
        refine (HA2.out _).mono ?_
        rintro e w1 ⟨rfl, rfl⟩
        go_wp2_with fail
        refine (HNM.out _).mono ?_
        rintro e w1 ⟨rfl, rfl⟩
        go_upto_region 8 with fail
        rw [← HX.out]
        go_wp2_with fail
        refine (HA3.out _).mono ?_
        rintro e w1 ⟨rfl, rfl⟩
        cases b3 with
        | true =>
          have hv : noteE read l = some (note nm .nil, nm.length + 12) := by rw [HV3.out, if_pos rfl]
          have HV1 := Lib.hid hv
          clear hv
          have hne2 : w.heap.size ≠ w.heap.size + 1 := by omega
          go_wp2_with fail
          have hkz : Known ((((((((W1.setCell ⟨w.heap.size + 1, 1, none⟩ (.string X))).setCell ⟨w.heap.size, 0, none⟩ (.int .i64 5)).setCell ⟨w.heap.size, 1, none⟩ (.string X)).setCell ⟨w.heap.size, 2, none⟩ (.int .i64 0)).setCell ⟨w.heap.size, 3, none⟩ (.string ⟨#[]⟩)).setCell ⟨w.heap.size, 4, none⟩ (.string ⟨#[]⟩)).setCell ⟨w.heap.size, 5, none⟩ (.slice none 0 0)) w.heap.size 56 #[.int .i64 5, .string X, .int .i64 0, .string ⟨#[]⟩, .string ⟨#[]⟩, .slice none 0 0] := (((((((HK0.out.far (p := ⟨w.heap.size + 1, 1, none⟩) (show w.heap.size ≠ w.heap.size + 1 by omega) (.string X))).put 0 (.int .i64 5)).put 1 (.string X)).put 2 (.int .i64 0)).put 3 (.string ⟨#[]⟩)).put 4 (.string ⟨#[]⟩)).put 5 (.slice none 0 0)
          have hbel := (((((((HBW.out.setCell (p := ⟨w.heap.size + 1, 1, none⟩) (Nat.le_succ _) (.string X))).setCell (p := ⟨w.heap.size, 0, none⟩) (Nat.le_refl _) (.int .i64 5)).setCell (p := ⟨w.heap.size, 1, none⟩) (Nat.le_refl _) (.string X)).setCell (p := ⟨w.heap.size, 2, none⟩) (Nat.le_refl _) (.int .i64 0)).setCell (p := ⟨w.heap.size, 3, none⟩) (Nat.le_refl _) (.string ⟨#[]⟩)).setCell (p := ⟨w.heap.size, 4, none⟩) (Nat.le_refl _) (.string ⟨#[]⟩)).setCell (p := ⟨w.heap.size, 5, none⟩) (Nat.le_refl _) (.slice none 0 0)
          obtain ⟨y0, y1, y2, y3, y4, y5⟩ := hkz.six
          refine bodyPost_ret (v := .tuple #[.agg #[.int .i64 5, .string X, .int .i64 0, .string ⟨#[]⟩, .string ⟨#[]⟩, .slice none 0 0], .int .i64 ((k : Int) + 2)]) (by simp only [results, Tryz.results111]; simp [go_sem, y0, y1, y2, y3, y4, y5]) rfl ⟨?_, hbel⟩
          rw [HV1.out]
          exact ⟨_, _, _, _, _, _, _, _, .nil, _, rfl, ins_none, by rw [HKE.out]; omega, by rw [HXM.out]; rfl⟩
        | false =>
          have hv := HV3.out
          rw [if_neg (by simp)] at hv
          have HV4 := Lib.hid hv
          clear hv
          go_wp2_with fail
          refine (HA4.out _).mono ?_
          rintro e w1 ⟨rfl, rfl⟩
          cases b4 with
          | true =>
            have h62 : (r.drop nm.length).head? = some 62 := by simpa using HB5.out.symm
            have hv : noteE read l = noteC read nm (nm.length + 11) l := by rw [HV4.out, if_pos h62]
            have hks := HKS.out h62
            have HV1 := Lib.hid hv
            clear hv h62
            go_wp2_with fail
            go_meet
            case rel => exact ⟨nm, nm.length + 11, by rw [HKE.out]; go_num, by have := HKE.out; omega, by omega, by have := HK1.out.put 1 (.string X); rw [HXM.out] at this ⊢; exact this, (HK0.out.far (p := ⟨w.heap.size + 1, 1, none⟩) (show w.heap.size ≠ w.heap.size + 1 by omega) (.string X)), (HBW.out.setCell (p := ⟨w.heap.size + 1, 1, none⟩) (Nat.le_succ _) (.string X)), HV1.out⟩
          | false =>
            have h62 : ¬ (r.drop nm.length).head? = some 62 := by simpa using HB5.out.symm
            have hv : noteE read l = none := by rw [HV4.out, if_neg h62]
            have HV1 := Lib.hid hv
            clear hv h62
            go_wp2_with fail
            have hkz : Known ((((((((W1.setCell ⟨w.heap.size + 1, 1, none⟩ (.string X))).setCell ⟨w.heap.size, 0, none⟩ (.int .i64 0)).setCell ⟨w.heap.size, 1, none⟩ (.string ⟨#[]⟩)).setCell ⟨w.heap.size, 2, none⟩ (.int .i64 0)).setCell ⟨w.heap.size, 3, none⟩ (.string ⟨#[]⟩)).setCell ⟨w.heap.size, 4, none⟩ (.string ⟨#[]⟩)).setCell ⟨w.heap.size, 5, none⟩ (.slice none 0 0)) w.heap.size 56 #[.int .i64 0, .string ⟨#[]⟩, .int .i64 0, .string ⟨#[]⟩, .string ⟨#[]⟩, .slice none 0 0] := (((((((HK0.out.far (p := ⟨w.heap.size + 1, 1, none⟩) (show w.heap.size ≠ w.heap.size + 1 by omega) (.string X))).put 0 (.int .i64 0)).put 1 (.string ⟨#[]⟩)).put 2 (.int .i64 0)).put 3 (.string ⟨#[]⟩)).put 4 (.string ⟨#[]⟩)).put 5 (.slice none 0 0)
            have hbel := (((((((HBW.out.setCell (p := ⟨w.heap.size + 1, 1, none⟩) (Nat.le_succ _) (.string X))).setCell (p := ⟨w.heap.size, 0, none⟩) (Nat.le_refl _) (.int .i64 0)).setCell (p := ⟨w.heap.size, 1, none⟩) (Nat.le_refl _) (.string ⟨#[]⟩)).setCell (p := ⟨w.heap.size, 2, none⟩) (Nat.le_refl _) (.int .i64 0)).setCell (p := ⟨w.heap.size, 3, none⟩) (Nat.le_refl _) (.string ⟨#[]⟩)).setCell (p := ⟨w.heap.size, 4, none⟩) (Nat.le_refl _) (.string ⟨#[]⟩)).setCell (p := ⟨w.heap.size, 5, none⟩) (Nat.le_refl _) (.slice none 0 0)
            obtain ⟨y0, y1, y2, y3, y4, y5⟩ := hkz.six
            refine bodyPost_ret (v := .tuple #[.agg #[.int .i64 0, .string ⟨#[]⟩, .int .i64 0, .string ⟨#[]⟩, .string ⟨#[]⟩, .slice none 0 0], .int .i64 0]) (by simp only [results, Tryz.results111]; simp [go_sem, y0, y1, y2, y3, y4, y5]) rfl ⟨?_, hbel⟩
            rw [HV1.out]
            exact note_none _ _ _
  case rest =>
   obtain ⟨tx, n, rfl, hin, hn1, hk1, hk0, hbw, hv⟩ := hcut
   obtain ⟨F, hF⟩ : ∃ F, F = i + n := ⟨_, rfl⟩
   rw [← hF] at hin ⊢
   obtain ⟨r, hr⟩ : ∃ r, r = l.drop n := ⟨_, rfl⟩
   have hrs : s.data.toList.drop F = r := by rw [hr, hF, HDM.out]
   have hrl : r.length = s.size - F := by rw [← hrs, List.length_drop, hz]
   have hI := fun W => index_any s ⟨bEnd.toArray⟩ F W (by omega) (by decide) (by decide) hin
   have e0 : (⟨bEnd.toArray⟩ : ByteArray).data.toList = bEnd := rfl
   rw [e0] at hI
   have hv : noteE read l = if Lib.index r bEnd = -1 then none else
     if Lib.index (r.take (Lib.index r bEnd).toNat) bRef ≠ -1 then none else some (note tx (read (r.take (Lib.index r bEnd).toNat)), n + (r.take (Lib.index r bEnd).toNat).length + 6) := by rw [hv, hr, noteC_eq]
   have HKK1 := Lib.hid hk1
   have HKK0 := Lib.hid hk0
   have HBWW := Lib.hid hbw
   have z := hk0.six
   obtain ⟨z0, z1, z2, z3, z4, z5⟩ := z
   have f0 := hk0.free 0
   have f1 := hk0.free 1
   have f2 := hk0.free 2
   have f3 := hk0.free 3
   have f4 := hk0.free 4
   have f5 := hk0.free 5
   have zl := hk0.lt
   have hzz0 := hbw.size
   clear hk1 hk0 hbw e0 HK0 HK1 HBW HA HA2 HV HP1 HP2
   by_cases hx : Lib.index r bEnd = -1
   ·rw [idx_none (by rw [hrs]; exact hx)] at hI
    have hv2 : noteE read l = none := by rw [hv, if_pos hx]
    have HV1 := Lib.hid hv2
    have HI := Lib.hid hI
    clear hI hv hv2 hx hr hrs hF
    go_wp2_with fail
    refine (HI.out _).mono ?_
    rintro e w1 ⟨rfl, rfl⟩
    go_wp2_with fail
    have hkz : Known (((((((wc).setCell ⟨w.heap.size, 0, none⟩ (.int .i64 0)).setCell ⟨w.heap.size, 1, none⟩ (.string ⟨#[]⟩)).setCell ⟨w.heap.size, 2, none⟩ (.int .i64 0)).setCell ⟨w.heap.size, 3, none⟩ (.string ⟨#[]⟩)).setCell ⟨w.heap.size, 4, none⟩ (.string ⟨#[]⟩)).setCell ⟨w.heap.size, 5, none⟩ (.slice none 0 0)) w.heap.size 56 #[.int .i64 0, .string ⟨#[]⟩, .int .i64 0, .string ⟨#[]⟩, .string ⟨#[]⟩, .slice none 0 0] := ((((((HKK0.out).put 0 (.int .i64 0)).put 1 (.string ⟨#[]⟩)).put 2 (.int .i64 0)).put 3 (.string ⟨#[]⟩)).put 4 (.string ⟨#[]⟩)).put 5 (.slice none 0 0)
    have hbel := ((((((HBWW.out).setCell (p := ⟨w.heap.size, 0, none⟩) (Nat.le_refl _) (.int .i64 0)).setCell (p := ⟨w.heap.size, 1, none⟩) (Nat.le_refl _) (.string ⟨#[]⟩)).setCell (p := ⟨w.heap.size, 2, none⟩) (Nat.le_refl _) (.int .i64 0)).setCell (p := ⟨w.heap.size, 3, none⟩) (Nat.le_refl _) (.string ⟨#[]⟩)).setCell (p := ⟨w.heap.size, 4, none⟩) (Nat.le_refl _) (.string ⟨#[]⟩)).setCell (p := ⟨w.heap.size, 5, none⟩) (Nat.le_refl _) (.slice none 0 0)
    obtain ⟨y0, y1, y2, y3, y4, y5⟩ := hkz.six
    refine bodyPost_ret (v := .tuple #[.agg #[.int .i64 0, .string ⟨#[]⟩, .int .i64 0, .string ⟨#[]⟩, .string ⟨#[]⟩, .slice none 0 0], .int .i64 0]) (by simp only [results, Tryz.results111]; simp [go_sem, y0, y1, y2, y3, y4, y5]) rfl ⟨?_, hbel⟩
    rw [HV1.out]
    exact note_none _ _ _
   ·obtain ⟨j, hj, hjr⟩ := index_nat hx
    have hbe : bEnd.length = 6 := rfl
    rw [hbe] at hjr
    rw [idx_some (by rw [hrs]; exact hj)] at hI
    rw [if_neg hx, hj, Int.toNat_natCast] at hv
    obtain ⟨E, hE⟩ : ∃ E, E = F + j := ⟨_, rfl⟩
    rw [← hE] at hI
    obtain ⟨c, hc⟩ : ∃ c, c = r.take j := ⟨_, rfl⟩
    have hcl : c.length = j := by rw [hc, List.length_take]; omega
    rw [← hc, hcl] at hv
    obtain ⟨X, hX⟩ : ∃ X, X = s.extract F E := ⟨_, rfl⟩
    have hXc : X.data.toList = c := by rw [hX, Lib.extract_data, hrs, hc, hE, show F + j - F = j by omega]
    have hXz : X.size + F + 6 ≤ s.size := by
     have : X.data.toList.length = X.size := by simp
     rw [hXc, hcl] at this; omega
    have h1 := fun W => index_any X ⟨bRef.toArray⟩ 0 W (by omega) (by decide) (by decide) (by omega)
    have e1 : (⟨bRef.toArray⟩ : ByteArray).data.toList = bRef := rfl
    rw [hXc, e1] at h1
    have e3 : c.drop 0 = c := rfl
    have g1 : decide ((E : Int) < 0) = false := decide_eq_false (by omega)
    have g2 : (F : Int) ≤ (E : Int) := by omega
    have g3 : (E : Int) ≤ (s.size : Int) := by omega
    have HI := Lib.hid hI
    have HX := Lib.hid hX
    have HXC := Lib.hid hXc
    have HE := Lib.hid hE
    have HF := Lib.hid hF
    by_cases hy : Lib.index c bRef = -1
    ·rw [idx_none (by rw [e3]; exact hy)] at h1
     have hP := IH.out X wc (by omega) (by omega)
     rw [hXc] at hP
     obtain ⟨M, hM⟩ : ∃ M, M = (read c).len := ⟨_, rfl⟩
     rw [← hM] at hP
     have hv2 : noteE read l = some (note tx (read c), n + j + 6) := by rw [hv, if_neg (by simpa using hy)]
     have HV1 := Lib.hid hv2
     have H1 := Lib.hid h1
     have HP := Lib.hid hP
     clear hI hv hv2 hx hr hrs h1 hP hM hX hXc hE hF hc hcl hy hj e1 e3
     go_wp2_with fail
     refine (HI.out _).mono ?_
     rintro e w1 ⟨rfl, rfl⟩
     go_wp2_with fail
     rw [← HX.out]
     refine (H1.out _).mono ?_
     rintro e w1 ⟨rfl, rfl⟩
     go_wp2_with fail
     rw [← HX.out]
     refine HP.out.mono ?_
     rintro e w2 ⟨p, cc, rfl, hsl, hb⟩
     have hk1 := HKK1.out.on hb
     have hk0 := HKK0.out.on hb
     obtain ⟨x0, x1, x2, x3, x4, x5⟩ := hk1.six
     have z := hk0.six
     obtain ⟨z0, z1, z2, z3, z4, z5⟩ := z
     have f0 := hk0.free 0
     have f1 := hk0.free 1
     have f2 := hk0.free 2
     have f3 := hk0.free 3
     have f4 := hk0.free 4
     have f5 := hk0.free 5
     have zl := hk0.lt
     have xf := hk1.free 5
     have xl := hk1.lt
     have hzl := HKK1.out.lt
     have HKX := Lib.hid hk1
     have HKZ := Lib.hid hk0
     have HSL := Lib.hid hsl
     have HB2 := Lib.hid (below_then HBWW.out hb)
     have hne : w.heap.size ≠ w.heap.size + 1 := by omega
     clear hk1 hk0 hsl hb
     go_wp2_with fail
     have hkept : Kept (fun k => wc.heap.size ≤ k) (fun k => wc.heap.size ≤ k) w2 ((((((((w2.setCell ⟨w.heap.size + 1, 5, none⟩ (.slice p M cc))).setCell ⟨w.heap.size, 0, none⟩ (.int .i64 5)).setCell ⟨w.heap.size, 1, none⟩ (.string ⟨tx.toArray⟩)).setCell ⟨w.heap.size, 2, none⟩ (.int .i64 0)).setCell ⟨w.heap.size, 3, none⟩ (.string ⟨#[]⟩)).setCell ⟨w.heap.size, 4, none⟩ (.string ⟨#[]⟩)).setCell ⟨w.heap.size, 5, none⟩ (.slice p M cc)) := by
      have h0 : ∀ k, wc.heap.size ≤ k → k ≠ w.heap.size := fun k h => by omega
      have h1 : ∀ k, wc.heap.size ≤ k → k ≠ w.heap.size + 1 := fun k h => by omega
      exact ((((((Kept.put h1 _ _).trans (Kept.put h0 _ _)).trans (Kept.put h0 _ _)).trans (Kept.put h0 _ _)).trans (Kept.put h0 _ _)).trans (Kept.put h0 _ _)).trans (Kept.put h0 _ _)
     have hsl2 := insS.sl_on (insS.sl_on HSL.out hkept) (Kept.mono (q' := fun k => w.heap.size ≤ k) fun k hk _ => Nat.le_trans hzz0 hk)
     have hkz : Known ((((((((w2.setCell ⟨w.heap.size + 1, 5, none⟩ (.slice p M cc))).setCell ⟨w.heap.size, 0, none⟩ (.int .i64 5)).setCell ⟨w.heap.size, 1, none⟩ (.string ⟨tx.toArray⟩)).setCell ⟨w.heap.size, 2, none⟩ (.int .i64 0)).setCell ⟨w.heap.size, 3, none⟩ (.string ⟨#[]⟩)).setCell ⟨w.heap.size, 4, none⟩ (.string ⟨#[]⟩)).setCell ⟨w.heap.size, 5, none⟩ (.slice p M cc)) w.heap.size 56 #[.int .i64 5, .string ⟨tx.toArray⟩, .int .i64 0, .string ⟨#[]⟩, .string ⟨#[]⟩, .slice p M cc] := (((((((HKZ.out.far (p := ⟨w.heap.size + 1, 5, none⟩) (show w.heap.size ≠ w.heap.size + 1 by omega) (.slice p M cc))).put 0 (.int .i64 5)).put 1 (.string ⟨tx.toArray⟩)).put 2 (.int .i64 0)).put 3 (.string ⟨#[]⟩)).put 4 (.string ⟨#[]⟩)).put 5 (.slice p M cc)
     have hbel := (((((((HB2.out.setCell (p := ⟨w.heap.size + 1, 5, none⟩) (Nat.le_succ _) (.slice p M cc))).setCell (p := ⟨w.heap.size, 0, none⟩) (Nat.le_refl _) (.int .i64 5)).setCell (p := ⟨w.heap.size, 1, none⟩) (Nat.le_refl _) (.string ⟨tx.toArray⟩)).setCell (p := ⟨w.heap.size, 2, none⟩) (Nat.le_refl _) (.int .i64 0)).setCell (p := ⟨w.heap.size, 3, none⟩) (Nat.le_refl _) (.string ⟨#[]⟩)).setCell (p := ⟨w.heap.size, 4, none⟩) (Nat.le_refl _) (.string ⟨#[]⟩)).setCell (p := ⟨w.heap.size, 5, none⟩) (Nat.le_refl _) (.slice p M cc)
     obtain ⟨y0, y1, y2, y3, y4, y5⟩ := hkz.six
     refine bodyPost_ret (v := .tuple #[.agg #[.int .i64 5, .string ⟨tx.toArray⟩, .int .i64 0, .string ⟨#[]⟩, .string ⟨#[]⟩, .slice p M cc], .int .i64 ((E : Int) + 6)]) (by simp only [results, Tryz.results111]; simp [go_sem, y0, y1, y2, y3, y4, y5]) rfl ⟨?_, hbel⟩
     rw [HV1.out]
     exact ⟨_, _, _, _, _, _, _, _, _, _, rfl, hsl2, by rw [HE.out, HF.out]; omega, rfl⟩
    ·obtain ⟨m, hm, _⟩ := index_nat hy
     rw [idx_some (by rw [e3]; exact hm), Nat.zero_add] at h1
     have hv2 : noteE read l = none := by rw [hv, if_pos hy]
     have HV1 := Lib.hid hv2
     have H1 := Lib.hid h1
     clear hI hv hv2 hx hr hrs h1 hX hXc hE hF hc hcl hy hj hm e1 e3
     go_wp2_with fail
     refine (HI.out _).mono ?_
     rintro e w1 ⟨rfl, rfl⟩
     go_wp2_with fail
     rw [← HX.out]
     refine (H1.out _).mono ?_
     rintro e w1 ⟨rfl, rfl⟩
     go_wp2_with fail
     have hkz : Known (((((((wc).setCell ⟨w.heap.size, 0, none⟩ (.int .i64 0)).setCell ⟨w.heap.size, 1, none⟩ (.string ⟨#[]⟩)).setCell ⟨w.heap.size, 2, none⟩ (.int .i64 0)).setCell ⟨w.heap.size, 3, none⟩ (.string ⟨#[]⟩)).setCell ⟨w.heap.size, 4, none⟩ (.string ⟨#[]⟩)).setCell ⟨w.heap.size, 5, none⟩ (.slice none 0 0)) w.heap.size 56 #[.int .i64 0, .string ⟨#[]⟩, .int .i64 0, .string ⟨#[]⟩, .string ⟨#[]⟩, .slice none 0 0] := ((((((HKK0.out).put 0 (.int .i64 0)).put 1 (.string ⟨#[]⟩)).put 2 (.int .i64 0)).put 3 (.string ⟨#[]⟩)).put 4 (.string ⟨#[]⟩)).put 5 (.slice none 0 0)
     have hbel := ((((((HBWW.out).setCell (p := ⟨w.heap.size, 0, none⟩) (Nat.le_refl _) (.int .i64 0)).setCell (p := ⟨w.heap.size, 1, none⟩) (Nat.le_refl _) (.string ⟨#[]⟩)).setCell (p := ⟨w.heap.size, 2, none⟩) (Nat.le_refl _) (.int .i64 0)).setCell (p := ⟨w.heap.size, 3, none⟩) (Nat.le_refl _) (.string ⟨#[]⟩)).setCell (p := ⟨w.heap.size, 4, none⟩) (Nat.le_refl _) (.string ⟨#[]⟩)).setCell (p := ⟨w.heap.size, 5, none⟩) (Nat.le_refl _) (.slice none 0 0)
     obtain ⟨y0, y1, y2, y3, y4, y5⟩ := hkz.six
     refine bodyPost_ret (v := .tuple #[.agg #[.int .i64 0, .string ⟨#[]⟩, .int .i64 0, .string ⟨#[]⟩, .string ⟨#[]⟩, .slice none 0 0], .int .i64 0]) (by simp only [results, Tryz.results111]; simp [go_sem, y0, y1, y2, y3, y4, y5]) rfl ⟨?_, hbel⟩
     rw [HV1.out]
     exact note_none _ _ _
end Go.Proofs.YthieinfonomeeaaGreatDoor
namespace Go.Proofs.YthieinfonomeeaaGreatDoor
open Go.RowKit Doc Tit Inl
set_option linter.unusedVariables false
attribute [local go_sem ↓] Go.wp_at_zero Go.wp_at_succ
theorem rs_start (w : World) (W : World) (hk : Known W w.heap.size 135 #[.int .i64 0, .slice none 0 0]) (hg : Known W (w.heap.size + 1) 138 #[.slice (some ⟨w.heap.size, 0, none⟩) 1 1, .bool false]) : RP w.heap.size (w.heap.size + 1) W Inl.start := by
 refine ⟨Nat.le_succ _, ?_, ok_start, by decide⟩
 have e : (flush Inl.start.stk Inl.start.pend).reverse = [(0, Ins.nil)] := rfl
 rw [e]
 refine ⟨some ⟨w.heap.size, 0, none⟩, 1, hg, ⟨_, _, rfl, Nat.le_refl _, by decide, (fun h => by cases h), .inr ⟨w.heap.size, 0, [.int .i64 0, .slice none 0 0], rfl, ⟨Nat.le_refl _, by omega⟩, hk.lt, ?_, ⟨.slice none 0 0, [], rfl, ins_none, rfl⟩⟩⟩⟩
 intro i u hu
 rw [Nat.zero_add, hk.cell i]
 simpa using hu
theorem tw_prefix {p : UInt8 → Bool} : ∀ (l : List UInt8) (m : Nat) (h : m < (l.takeWhile p).length), ∃ h2 : m < l.length, p l[m] = true
 | [], m, h => by simp at h
 | a :: r, m, h => by
   rw [List.takeWhile_cons] at h
   cases hp : p a with
   | false => rw [hp] at h; simp at h
   | true =>
     rw [hp, if_pos rfl] at h
     cases m with
     | zero => exact ⟨by simp, hp⟩
     | succ m =>
       simp only [List.length_cons] at h
       obtain ⟨h2, h3⟩ := tw_prefix (p := p) r m (by omega)
       exact ⟨by simp only [List.length_cons]; omega, by simpa using h3⟩
theorem tw_stop {p : UInt8 → Bool} : ∀ (l : List UInt8) (h : (l.takeWhile p).length < l.length), p l[(l.takeWhile p).length] = false
 | [], h => by simp at h
 | a :: r, h => by
   cases hp : p a with
   | false =>
     have e : (a :: r).takeWhile p = [] := by rw [List.takeWhile_cons, hp]; rfl
     simp only [e, List.length_nil, List.getElem_cons_zero]
     exact hp
   | true =>
     have e : (a :: r).takeWhile p = a :: r.takeWhile p := by rw [List.takeWhile_cons, hp]; rfl
     simp only [e, List.length_cons] at h ⊢
     simp only [List.getElem_cons_succ]
     exact tw_stop r (by omega)
theorem fin_eq {s : S} {k : Int} {l : Ins} {r : Stk} (h : endN (s.stk.length - 1) (flush s.stk s.pend) = (k, l) :: r) : s.fin = l := by
 unfold S.fin; rw [h]
theorem flush_len (st : Stk) (p : List UInt8) : (flush st p).length = st.length := by
 unfold flush
 split
 ·rfl
 ·exact addTop_length _ _
set_option maxRecDepth 20000 in
set_option maxHeartbeats 8000000 in
theorem rparse_step (N : Nat) (ih : RParse N) (s : ByteArray) (w : World) (hN : s.size ≤ N) (hs : s.size ≤ 100000000) : Calls Tryz.prog 77 #[.string s] w fun e w' =>
  ∃ p c, e = .returned (.slice p (read s.data.toList).len c) ∧ insS.sl (fun k => w.heap.size ≤ k) w' (.slice p (read s.data.toList).len c) (read s.data.toList) ∧ Below w.heap.size w w' := by
 have hz : s.data.toList.length = s.size := by simp
 have hLI := fun i W (h : i < s.size) => rlink_any N ih s i W hs h hN
 have hNO := fun i W (h : i < s.size) => rnote_any N ih s i W hs h hN
 have hEN := fun i W (h : i ≤ s.size) => rentity_any s i W hs h
 have hAB := fun i W (h : i ≤ s.size) => at_any s ⟨bBr.toArray⟩ i W (by omega) (by decide) h
 have hAQ := fun i W (h : i ≤ s.size) => at_any s ⟨#[39, 39]⟩ i W (by omega) (by decide) h
 have e0 : (⟨bBr.toArray⟩ : ByteArray).data.toList = bBr := rfl
 have e1 : (⟨#[39, 39]⟩ : ByteArray).data.toList = [39, 39] := rfl
 rw [e0] at hAB
 rw [e1] at hAQ
 have hdb := drop_byte s
 have hba := byte_at s
 obtain ⟨l, hl⟩ : ∃ l, l = s.data.toList := ⟨_, rfl⟩
 rw [← hl] at hLI hNO hEN hAB hAQ hdb hz ⊢
 have hba : ∀ k (h : k < s.size), ∃ h2 : k < l.length, s[k] = l[k] := fun k h => by subst hl; exact hba k h
 have hrd := read_goes l
 have HLI := Lib.hid hLI
 have HNO := Lib.hid hNO
 have HEN := Lib.hid hEN
 have HAB := Lib.hid hAB
 have HAQ := Lib.hid hAQ
 have HDB := Lib.hid hdb
 have HBA := Lib.hid hba
 have HRD := Lib.hid hrd
 have HZ := Lib.hid hz
 clear hLI hNO hEN hAB hAQ hdb hba hrd hl hz e0 e1 ih
 have hk := (Known.made w 135 #[.int .i64 0, .slice none 0 0]).alloc (.cells #[.slice (some ⟨w.heap.size, 0, none⟩) 1 1, .bool false] 138)
 have hg := Known.made (w.alloc (.cells #[.int .i64 0, .slice none 0 0] 135)) 138 #[.slice (some ⟨w.heap.size, 0, none⟩) 1 1, .bool false]
 rw [World.size_alloc] at hg
 have hb0 := below_then (below_new0 w (.cells #[.int .i64 0, .slice none 0 0] 135)) (below_new0 _ (.cells #[.slice (some ⟨w.heap.size, 0, none⟩) 1 1, .bool false] 138))
 have hrs := rs_start w _ hk hg
 clear hk hg
 have HB0 := Lib.hid hb0
 have HRS := Lib.hid hrs
 clear hb0 hrs
 go_enter Tryz.func77, Tryz.ntmps77
 go_wp2_with fail
 go_loopg [4, 5, 6, 7, 8, 9, 10, 11, 12] (s.size + 1) (fun gg s4 s5 s6 s7 s8 s9 s10 s11 s12 wr => ∃ (i : Nat) (st : S), i ≤ s.size ∧ s.size < i + gg ∧ s4 = .int .i64 i ∧ RP w.heap.size (w.heap.size + 1) wr st ∧ st.m ≤ i ∧ goes Inl.start l = goes st (l.drop i) ∧ Below w.heap.size w wr)
 case atStart => exact ⟨0, Inl.start, by omega, by omega, rfl, HRS.out, by decide, rfl, HB0.out⟩
 case round =>
  obtain ⟨i, st, hi, hgg, rfl, hR, hm, hgo, hb⟩ := hrel
  obtain ⟨wo, hwo⟩ : ∃ wo, wo = wr := ⟨_, rfl⟩
  subst hwo
  have HR := Lib.hid hR
  have HB := Lib.hid hb
  have hgl := hR.lt
  clear hR hb
  by_cases hin : i < s.size
  ·have g1 : decide (i < s.size) = true := decide_eq_true hin
   have hdi := HDB.out i hin
   obtain ⟨c, hc⟩ : ∃ c, c = s[i] := ⟨_, rfl⟩
   obtain ⟨r, hr⟩ : ∃ r, r = l.drop (i + 1) := ⟨_, rfl⟩
   rw [← hc, ← hr] at hdi
   have hstep : ∀ E : Ev, evR read c r = E → goes Inl.start l = goes (E.app st) (l.drop (i + E.len)) ∧ 1 ≤ E.len ∧ i + E.len ≤ s.size ∧ ((∀ x n, E = .elem x n → x.len ≤ 1) → (E.app st).m ≤ i + E.len) := by
    intro E hE
    rw [← ev_ref] at hE
    have hel := ev_len read c r
    rw [hE] at hel
    have hcl : (c :: r).length = s.size - i := by rw [← hdi, List.length_drop, HZ.out]
    rw [hcl] at hel
    refine ⟨?_, hel.1, by omega, fun he => Nat.le_trans (m_app st E he hel.1) (by omega)⟩
    rw [hgo, hdi, goes_cons, hE, ← hdi, List.drop_drop]
   have hcLI := HLI.out i wo hin
   have hcNO := fun W => HNO.out i W hin
   have hcEN := fun W => HEN.out i W hi
   have hcAB := fun W => HAB.out i W hi
   have hcAQ := fun W => HAQ.out i W hi
   rw [hdi] at hcLI hcNO hcEN hcAB hcAQ
   have hev : evR read c r = (match linkE read (c :: r) with
    | some (none, n) => .skip n
    | some (some x, n) => .elem x n
    | none => match noteE read (c :: r) with
      | some (x, n) => .elem x n
      | none => if Lib.hasPrefix (c :: r) bBr then .elem (el 6 [] .nil) 4 else match ent (c :: r) with
        | some (x, n) => .letter x n
        | none => if Lib.hasPrefix (c :: r) [39, 39] then .quotes ((c :: r).takeWhile (· = 39)).length else .letter c 1) := rfl
   have hll1 : ∀ x n, linkE read (c :: r) = some (some x, n) → x.len = 1 := fun x n h => link_len1 h
   have hnl1 : ∀ x n, noteE read (c :: r) = some (x, n) → x.len = 1 := fun x n h => note_len1 h
   obtain ⟨V, hV⟩ : ∃ V, V = linkE read (c :: r) := ⟨_, rfl⟩
   obtain ⟨V2, hV2⟩ : ∃ V2, V2 = noteE read (c :: r) := ⟨_, rfl⟩
   obtain ⟨V3, hV3⟩ : ∃ V3, V3 = Lib.hasPrefix (c :: r) bBr := ⟨_, rfl⟩
   obtain ⟨V4, hV4⟩ : ∃ V4, V4 = ent (c :: r) := ⟨_, rfl⟩
   obtain ⟨V5, hV5⟩ : ∃ V5, V5 = Lib.hasPrefix (c :: r) [39, 39] := ⟨_, rfl⟩
   rw [← hV] at hcLI hev hll1
   rw [← hV2] at hcNO hev hnl1
   rw [← hV3] at hcAB hev
   rw [← hV4] at hcEN hev
   rw [← hV5] at hcAQ hev
   have hbw := HB.out.size
   have HSTEP := Lib.hid hstep
   have HEV := Lib.hid hev
   have HC := Lib.hid hc
   have HRR := Lib.hid hr
   have HCLI := Lib.hid hcLI
   have HCNO := Lib.hid hcNO
   have HCEN := Lib.hid hcEN
   have HCAB := Lib.hid hcAB
   have HCAQ := Lib.hid hcAQ
   have HLL1 := Lib.hid hll1
   have HNL1 := Lib.hid hnl1
   have HDI := Lib.hid hdi
   have HV5 := Lib.hid hV5
   clear hstep hev hc hr hcLI hcNO hcEN hcAB hcAQ hll1 hnl1 hdi hgo hV hV2 hV3 hV4 hV5
   go_wp2_with fail
   refine HCLI.out.mono ?_
   rintro e w1 ⟨⟨a, tx, sp, nm, an, kp, kn, kc, kids, b, n, rfl, hsl, hmm⟩, hb1⟩
   have hX := Known.made w1 56 #[.int .i64 a, .string tx, .int .i64 sp, .string nm, .string an, .slice kp kn kc]
   have hbx := below_then hb1 (below_new0 w1 (.cells #[.int .i64 a, .string tx, .int .i64 sp, .string nm, .string an, .slice kp kn kc] 56))
   have hslx := insS.sl_on (insS.sl_on hsl (Kept.alloc (.cells #[.int .i64 a, .string tx, .int .i64 sp, .string nm, .string an, .slice kp kn kc] 56))) (Kept.mono (q' := kg w.heap.size (w.heap.size + 1)) fun k hk _ => by
    have hk : wo.heap.size ≤ k := hk
    exact ⟨by omega, by omega⟩)
   have hRx := HR.out.below hbx
   have hBx := below_then HB.out hbx
   obtain ⟨x0, x1, x2, x3, x4, x5⟩ := hX.six
   have xl := hX.lt
   cases V with
   | some y =>
     obtain ⟨y, m⟩ := y
     cases y with
     | none =>
       obtain ⟨rfl, rfl⟩ := hmm
       obtain ⟨hgo, hl1, hls, hme⟩ := HSTEP.out (.skip m) HEV.out
       have hl1 : 1 ≤ m := hl1
       have hls : i + m ≤ s.size := hls
       have hme := hme (fun x n h => by cases h)
       have g2 : decide ((0 : Int) < ((i + m : Nat) : Int)) = true := decide_eq_true (by omega)
       have g2' : decide (0 < i + m) = true := decide_eq_true (by omega)
       obtain ⟨j, hj⟩ : ∃ j, j = i + m := ⟨_, rfl⟩
       have HJ := Lib.hid hj
       have HGO := Lib.hid hgo
       have HME := Lib.hid hme
       have HRX := Lib.hid hRx
       have HBX := Lib.hid hBx
       rw [← hj] at g2 g2' ⊢
       have hjs : j ≤ s.size := by omega
       have hij : i < j := by omega
       clear hgo hme hRx hBx hX hbx hslx hsl hb1 hj x0 x1 x2 x3 x4 x5 xl
       go_wp2_with fail
       go_roundg (s.size - i)
       case measure => omega
       case rel => exact ⟨j, st, hjs, by omega, rfl, HRX.out, by rw [HJ.out]; exact HME.out, by rw [HJ.out]; exact HGO.out, HBX.out⟩
     | some x =>
       obtain ⟨rfl, rfl, rfl⟩ := hmm
       obtain ⟨hgo, hl1, hls, hme⟩ := HSTEP.out (.elem (.cons a tx sp nm an kids .nil) m) HEV.out
       have hl1 : 1 ≤ m := hl1
       have hls : i + m ≤ s.size := hls
       have hme := hme (fun x' n' h => by injection h with h _; rw [← h]; exact Nat.le_refl _)
       obtain ⟨j, hj⟩ : ∃ j, j = i + m := ⟨_, rfl⟩
       have g2 : decide ((0 : Int) < ((i + m : Nat) : Int)) = true := decide_eq_true (by omega)
       have g2' : decide (0 < i + m) = true := decide_eq_true (by omega)
       rw [← hj] at g2 g2' ⊢
       have HJ := Lib.hid hj
       have HGO := Lib.hid hgo
       have HME := Lib.hid hme
       have hC := radd_p _ _ _ st a tx sp nm an kp kn kc kids hRx hslx (by omega)
       have HC2 := Lib.hid hC
       have HBX := Lib.hid hBx
       have hjs : j ≤ s.size := by omega
       have hij : i < j := by omega
       clear hgo hme hC hj hRx hBx hbx hslx hsl hb1
       go_wp2_with fail
       refine HC2.out.mono ?_
       rintro e w9 ⟨rfl, hR9, hS9⟩
       have HR9 := Lib.hid hR9
       have HB9 := Lib.hid (Step.onto HBX.out (Nat.le_succ _) hS9)
       clear hR9 hS9
       go_wp2_with fail
       go_roundg (s.size - i)
       case measure => omega
       case rel => exact ⟨j, _, hjs, by omega, rfl, HR9.out, by rw [HJ.out]; exact HME.out, by rw [HJ.out]; exact HGO.out, HB9.out⟩
   | none =>
     obtain ⟨rfl, rfl⟩ := hmm
     obtain ⟨wx, hwx⟩ : ∃ wx, wx = w1.alloc (.cells #[.int .i64 a, .string tx, .int .i64 sp, .string nm, .string an, .slice kp kn kc] 56) := ⟨_, rfl⟩
     have HRX := Lib.hid hRx
     have HBX := Lib.hid hBx
     have hwz := hbx.size
     rw [← hwx] at HRX HBX hwz
     have hcn := HCNO.out wx
     have HCN := Lib.hid hcn
     have HWX := Lib.hid hwx
     clear hRx hBx hX hbx hslx hsl hb1 x0 x1 x2 x3 x4 x5 xl hcn hwx
     go_wp2_with fail
     rw [← HWX.out]
     refine HCN.out.mono ?_
     rintro e w2 ⟨⟨a2, tx2, sp2, nm2, an2, kp2, kn2, kc2, kids2, n2, rfl, hsl, hmm⟩, hb1⟩
     have hX := Known.made w2 56 #[.int .i64 a2, .string tx2, .int .i64 sp2, .string nm2, .string an2, .slice kp2 kn2 kc2]
     have hbx := below_then hb1 (below_new0 w2 (.cells #[.int .i64 a2, .string tx2, .int .i64 sp2, .string nm2, .string an2, .slice kp2 kn2 kc2] 56))
     have hslx := insS.sl_on (insS.sl_on hsl (Kept.alloc (.cells #[.int .i64 a2, .string tx2, .int .i64 sp2, .string nm2, .string an2, .slice kp2 kn2 kc2] 56))) (Kept.mono (q' := kg w.heap.size (w.heap.size + 1)) fun k hk _ => by
      have hk : wx.heap.size ≤ k := hk
      exact ⟨by omega, by omega⟩)
     have hRx := HRX.out.below hbx
     have hBx := below_then HBX.out hbx
     obtain ⟨x0, x1, x2, x3, x4, x5⟩ := hX.six
     have xl := hX.lt
     cases V2 with
     | some y =>
       obtain ⟨y, m⟩ := y
       obtain ⟨rfl, rfl⟩ := hmm
       obtain ⟨hgo, hl1, hls, hme⟩ := HSTEP.out (.elem (.cons a2 tx2 sp2 nm2 an2 kids2 .nil) m) HEV.out
       have hl1 : 1 ≤ m := hl1
       have hls : i + m ≤ s.size := hls
       have hme := hme (fun x' n' h => by injection h with h _; rw [← h]; exact Nat.le_refl _)
       obtain ⟨j, hj⟩ : ∃ j, j = i + m := ⟨_, rfl⟩
       have g2 : decide ((0 : Int) < ((i + m : Nat) : Int)) = true := decide_eq_true (by omega)
       have g2' : decide (0 < i + m) = true := decide_eq_true (by omega)
       rw [← hj] at g2 g2' ⊢
       have HJ := Lib.hid hj
       have HGO := Lib.hid hgo
       have HME := Lib.hid hme
       have hC := radd_p _ _ _ st a2 tx2 sp2 nm2 an2 kp2 kn2 kc2 kids2 hRx hslx (by omega)
       have HC2 := Lib.hid hC
       have HBX := Lib.hid hBx
       have hjs : j ≤ s.size := by omega
       have hij : i < j := by omega
       clear hgo hme hC hj hRx hBx hbx hslx hsl hb1
       go_wp2_with fail
       refine HC2.out.mono ?_
       rintro e w9 ⟨rfl, hR9, hS9⟩
       have HR9 := Lib.hid hR9
       have HB9 := Lib.hid (Step.onto HBX.out (Nat.le_succ _) hS9)
       clear hR9 hS9
       go_wp2_with fail
       go_roundg (s.size - i)
       case measure => omega
       case rel => exact ⟨j, _, hjs, by omega, rfl, HR9.out, by rw [HJ.out]; exact HME.out, by rw [HJ.out]; exact HGO.out, HB9.out⟩
     | none =>
       subst hmm
       obtain ⟨wy, hwy⟩ : ∃ wy, wy = w2.alloc (.cells #[.int .i64 a2, .string tx2, .int .i64 sp2, .string nm2, .string an2, .slice kp2 kn2 kc2] 56) := ⟨_, rfl⟩
       have HRY := Lib.hid hRx
       have HBY := Lib.hid hBx
       rw [← hwy] at HRY HBY
       have hcn := HCAB.out wy
       have HCN := Lib.hid hcn
       have HWY := Lib.hid hwy
       clear hRx hBx hX hbx hslx hsl hb1 x0 x1 x2 x3 x4 x5 xl hcn hwy HRX HBX HWX HCN
       have HCN := HCAB.out wy
       have HCN := Lib.hid HCN
       go_wp2_with fail
       rw [← HWY.out]
       refine HCN.out.mono ?_
       rintro e w3 ⟨rfl, rfl⟩
       cases V3 with
       | true =>
         obtain ⟨hgo, hl1, hls, hme⟩ := HSTEP.out (.elem (el 6 [] .nil) 4) HEV.out
         have hl1 : 1 ≤ 4 := hl1
         have hls : i + 4 ≤ s.size := hls
         have hme := hme (fun x' n' h => by injection h with h _; rw [← h]; exact Nat.le_refl _)
         obtain ⟨j, hj⟩ : ∃ j, j = i + 4 := ⟨_, rfl⟩
         skip
         have HJ := Lib.hid hj
         have HGO := Lib.hid hgo
         have HME := Lib.hid hme
         have hC := radd_p _ _ _ st 6 ⟨#[]⟩ 0 ⟨#[]⟩ ⟨#[]⟩ none 0 0 .nil HRY.out ins_none (by omega)
         have HC2 := Lib.hid hC
         have HBX := Lib.hid HBY.out
         have hjs : j ≤ s.size := by omega
         have hij : i < j := by omega
         clear hgo hme hC hj
         go_wp2_with fail
         refine HC2.out.mono ?_
         rintro e w9 ⟨rfl, hR9, hS9⟩
         have HR9 := Lib.hid hR9
         have HB9 := Lib.hid (Step.onto HBX.out (Nat.le_succ _) hS9)
         clear hR9 hS9
         go_wp2_with fail
         go_roundg (s.size - i)
         case measure => omega
         case rel => exact ⟨j, _, hjs, by omega, by rw [HJ.out]; go_num, HR9.out, by rw [HJ.out]; exact HME.out, by rw [HJ.out]; exact HGO.out, HB9.out⟩
       | false =>
         have HCE := Lib.hid (HCEN.out wy)
         go_wp2_with fail
         refine HCE.out.mono ?_
         rintro e w3 ⟨rfl, hb3⟩
         have HR3 := Lib.hid (HRY.out.below hb3)
         have HB3 := Lib.hid (below_then HBY.out hb3)
         clear hb3 HRY HBY HCN HWY
         cases V4 with
         | some y =>
           obtain ⟨x, m⟩ := y
           obtain ⟨hgo, hl1, hls, hme⟩ := HSTEP.out (.letter x m) HEV.out
           have hl1 : 1 ≤ m := hl1
           have hls : i + m ≤ s.size := hls
           have hme := hme (fun x' n' h => by cases h)
           obtain ⟨j, hj⟩ : ∃ j, j = i + m := ⟨_, rfl⟩
           have g2 : decide ((0 : Int) < (m : Int)) = true := decide_eq_true (by omega)
           have g2' : decide (0 < m) = true := decide_eq_true (by omega)
           simp only [entV]
           have HJ := Lib.hid hj
           have HGO := Lib.hid hgo
           have HME := Lib.hid hme
           have hC := rletter_p _ _ _ st x HR3.out (by omega)
           have HC2 := Lib.hid hC
           have HBX := Lib.hid HB3.out
           have hjs : j ≤ s.size := by omega
           have hij : i < j := by omega
           clear hgo hme hC hj
           go_wp2_with fail
           refine HC2.out.mono ?_
           rintro e w9 ⟨rfl, hR9, hS9⟩
           have HR9 := Lib.hid hR9
           have HB9 := Lib.hid (Step.onto HBX.out (Nat.le_succ _) hS9)
           clear hR9 hS9
           go_wp2_with fail
           go_roundg (s.size - i)
           case measure => omega
           case rel => exact ⟨j, _, hjs, by omega, by rw [HJ.out]; go_num, HR9.out, by rw [HJ.out]; exact HME.out, by rw [HJ.out]; exact HGO.out, HB9.out⟩
         | none =>
           have HCQ := Lib.hid (HCAQ.out w3)
           simp only [entV]
           go_wp2_with fail
           refine HCQ.out.mono ?_
           rintro e w4 ⟨rfl, rfl⟩
           cases V5 with
           | true =>
             obtain ⟨q, hq⟩ : ∃ q, q = ((c :: r).takeWhile (· = 39)).length := ⟨_, rfl⟩
             have hc39 : c = 39 := by
              have := HV5.out
              by_cases e : c = 39
              ·exact e
              ·rw [quote_other e] at this; cases this
             have hq2 : 2 ≤ q := by
              have h1 := HV5.out
              rw [hc39] at h1 hq
              rw [quote_two] at h1
              rw [hq]; exact of_decide_eq_true h1.symm
             obtain ⟨hgo, hl1, hls, hme⟩ := HSTEP.out (.quotes q) (by rw [hq]; exact HEV.out)
             have hls : i + q ≤ s.size := hls
             have hme := hme (fun x n h => by cases h)
             have hdi := HDI.out
             rw [← hdi] at hq
             have hq1 : ∀ n, n < q → ∃ h : i + n < s.size, s[i + n].toNat = 39 := fun n hn => by
              rw [hq] at hn
              obtain ⟨h1, h2⟩ := tw_prefix _ n hn
              rw [List.length_drop, HZ.out] at h1
              have h3 : i + n < s.size := by omega
              obtain ⟨h4, h5⟩ := HBA.out (i + n) h3
              refine ⟨h3, ?_⟩
              rw [List.getElem_drop] at h2
              rw [h5, of_decide_eq_true h2]; rfl
             have hq3 : ∀ h : i + q < s.size, s[i + q].toNat ≠ 39 := fun h e => by
              have h1 : q < (l.drop i).length := by rw [List.length_drop, HZ.out]; omega
              rw [hq] at h1
              have h2 := tw_stop _ h1
              simp only [← hq] at h2
              rw [List.getElem_drop] at h2
              obtain ⟨h4, h5⟩ := HBA.out (i + q) h
              rw [← h5] at h2
              have h6 : s[i + q] = 39 := (u8_eq (n := 39) (by decide)).2 e
              simp [h6] at h2
             have HQ1 := Lib.hid hq1
             have HQ3 := Lib.hid hq3
             have HGO := Lib.hid hgo
             have HME := Lib.hid hme
             clear hgo hme hq hq1 hq3 hdi hl1 hc39
             go_wp2_with fail
             go_loopg [12] (q + 1) (fun gg s12 wr => ∃ n : Nat, s12 = .int .i64 n ∧ n ≤ q ∧ q < n + gg ∧ w3 = wr)
             case atStart => exact ⟨0, rfl, by omega, by omega, rfl⟩
             case round =>
              obtain ⟨n, rfl, hnq, hng, rfl⟩ := hrel
              by_cases hn : n < q
              ·obtain ⟨h1, h2⟩ := HQ1.out n hn
               have g4 : decide ((i : Int) + (n : Int) < (s.size : Int)) = true := decide_eq_true (by omega)
               have g5 : ((s[i + n].toNat : Int) == 39) = true := by simp; omega
               clear h2
               go_wp2_with fail
               go_roundg (q - n)
               case measure => omega
               case rel => exact ⟨n + 1, by go_num, by omega, by omega, rfl⟩
              ·have hnn : n = q := by omega
               subst hnn
               have hC := rquotes_any _ _ _ st n HR3.out hq2 (by omega) (by omega)
               have HC9 := Lib.hid hC
               obtain ⟨j, hj⟩ : ∃ j, j = i + n := ⟨_, rfl⟩
               have HJ := Lib.hid hj
               have hjs : j ≤ s.size := by omega
               have hij : i < j := by omega
               clear hC hj hn
               by_cases hin2 : i + n < s.size
               ·have g4 : decide ((i : Int) + (n : Int) < (s.size : Int)) = true := decide_eq_true (by omega)
                have h2 := HQ3.out hin2
                have g5 : ((s[i + n].toNat : Int) == 39) = false := by simp; omega
                clear h2
                go_wp2_with fail
                refine HC9.out.mono ?_
                rintro e w9 ⟨rfl, hR9, hS9⟩
                have HR9 := Lib.hid hR9
                have HB9 := Lib.hid (Step.onto HB3.out (Nat.le_succ _) hS9)
                clear hR9 hS9
                go_wp2_with fail
                go_roundg (s.size - i)
                case measure => omega
                case rel => exact ⟨j, _, hjs, by omega, by rw [HJ.out]; go_num, HR9.out, by rw [HJ.out]; exact HME.out, by rw [HJ.out]; exact HGO.out, HB9.out⟩
               ·have g4 : decide ((i : Int) + (n : Int) < (s.size : Int)) = false := decide_eq_false (by omega)
                go_wp2_with fail
                refine HC9.out.mono ?_
                rintro e w9 ⟨rfl, hR9, hS9⟩
                have HR9 := Lib.hid hR9
                have HB9 := Lib.hid (Step.onto HB3.out (Nat.le_succ _) hS9)
                clear hR9 hS9
                go_wp2_with fail
                go_roundg (s.size - i)
                case measure => omega
                case rel => exact ⟨j, _, hjs, by omega, by rw [HJ.out]; go_num, HR9.out, by rw [HJ.out]; exact HME.out, by rw [HJ.out]; exact HGO.out, HB9.out⟩
           | false =>
             obtain ⟨hgo, hl1, hls, hme⟩ := HSTEP.out (.letter c 1) HEV.out
             have hl1 : 1 ≤ 1 := hl1
             have hls : i + 1 ≤ s.size := hls
             have hme := hme (fun x' n' h => by cases h)
             obtain ⟨j, hj⟩ : ∃ j, j = i + 1 := ⟨_, rfl⟩
             have hcs := HC.out
             have HJ := Lib.hid hj
             have HGO := Lib.hid hgo
             have HME := Lib.hid hme
             have hC := rletter_p _ _ _ st c HR3.out (by omega)
             rw [hcs] at hC
             have HC2 := Lib.hid hC
             clear hcs
             have HBX := Lib.hid HB3.out
             have hjs : j ≤ s.size := by omega
             have hij : i < j := by omega
             clear hgo hme hC hj
             go_wp2_with fail
             refine HC2.out.mono ?_
             rintro e w9 ⟨rfl, hR9, hS9⟩
             have HR9 := Lib.hid hR9
             have HB9 := Lib.hid (Step.onto HBX.out (Nat.le_succ _) hS9)
             clear hR9 hS9
             go_wp2_with fail
             go_roundg (s.size - i)
             case measure => omega
             case rel => exact ⟨j, _, hjs, by omega, by rw [HJ.out]; go_num, HR9.out, by rw [HJ.out, ← HC.out]; exact HME.out, by rw [HJ.out, ← HC.out]; exact HGO.out, HB9.out⟩
  ·have g1 : decide (i < s.size) = false := decide_eq_false hin
   have hgo2 : goes Inl.start l = st := by rw [hgo, List.drop_eq_nil_of_le (by rw [HZ.out]; omega), goes_nil]
   have hrd : read l = st.fin := by rw [HRD.out, hgo2]
   obtain ⟨fs, hfs⟩ : ∃ fs, fs = flush st.stk st.pend := ⟨_, rfl⟩
   have hok : Ok fs := by rw [hfs]; exact HR.out.ok.flush _
   have hlen := ok_len hok
   have hfl : fs.length = st.stk.length := by rw [hfs, flush_len]
   have hfin : ∀ k l' r', endN (fs.length - 1) fs = (k, l') :: r' → read l = l' := fun k l' r' h => by
    rw [hrd]; exact fin_eq (by rw [← hfs, ← hfl]; exact h)
   have hrs := HR.out.rs
   rw [← hfs] at hrs
   have htot : tot fs ≤ 1000000000 := by
    have h1 := tot_flush st.stk st.pend
    have h2 := HR.out.m
    rw [← hfs] at h1
    unfold S.m at h2; omega
   have HFIN := Lib.hid hfin
   have HRS2 := Lib.hid hrs
   have HTOT := Lib.hid htot
   obtain ⟨L, hL⟩ : ∃ L, L = fs.length := ⟨_, rfl⟩
   rw [← hL] at hlen hfin
   have HL := Lib.hid hL
   have HBB := HB
   clear hgo hgo2 hrd hfs hok hfl hfin hrs htot hL HR HLI HNO HEN HAB HAQ HDB HBA HRD
   go_wp2_with fail
   go_loopg [] (L + 1) (fun gg wr => ∃ (j : Nat) (t' : Bool), j < L ∧ L ≤ j + gg ∧ RS w.heap.size (w.heap.size + 1) wr (endN j fs).reverse t' ∧ Below w.heap.size w wr)
   case atStart => exact ⟨0, _, by omega, by omega, HRS2.out, HBB.out⟩
   case round =>
    obtain ⟨j, t', hj, hjg, hrs, hb⟩ := hrel
    have hel := endN_length j fs (by rw [← HL.out]; exact hj)
    rw [← HL.out] at hel
    have hrl : (endN j fs).reverse.length = L - j := by rw [List.length_reverse, hel]
    have hto : tot (endN j fs) ≤ 1000000000 := Nat.le_trans (tot_endN j fs) HTOT.out
    have hC := fun h2 => rend_t w.heap.size (w.heap.size + 1) (Nat.le_succ _) wr (endN j fs).reverse t' hrs h2 (by rw [hrl]; omega) (by rw [List.reverse_reverse]; exact hto)
    rw [List.reverse_reverse, ← endN_snoc, hrl] at hC
    have HRS3 := Lib.hid hrs
    obtain ⟨p', c', hK', hS'⟩ := hrs
    rw [hrl] at hK'
    obtain ⟨d0, d1⟩ := hK'.two
    have hdl := hK'.lt
    obtain ⟨x, hx⟩ : ∃ x, x = L - j := ⟨_, rfl⟩
    rw [← hx] at d0 hK' hC hrl
    have HB9 := Lib.hid hb
    have HS9 := Lib.hid hS'
    have HEL := Lib.hid hel
    have HRL := Lib.hid hrl
    have HX := Lib.hid hx
    clear hel hrl hto hb hS' hK'
    by_cases hj1 : j + 1 < L
    ·have g2 : decide (1 < x) = true := decide_eq_true (by omega)
     have g2' : decide ((1 : Int) < (x : Int)) = true := decide_eq_true (by omega)
     have HC := Lib.hid (hC (by omega))
     clear hC hx
     go_wp2_with fail
     refine HC.out.mono ?_
     rintro e w3 ⟨rfl, hS3, t3, hR3⟩
     have HR3 := Lib.hid hR3
     have HB3 := Lib.hid (Step.onto HB9.out (Nat.le_succ _) hS3)
     clear hR3 hS3
     go_wp2_with fail
     go_roundg (L - j - 1)
     case measure => omega
     case rel => exact ⟨j + 1, t3, by omega, by omega, HR3.out, HB3.out⟩
    ·have hjl : j = fs.length - 1 := by rw [← HL.out]; omega
     have hx1 : x = 1 := by omega
     have hel := HEL.out
     rw [← HX.out, hx1] at hel
     obtain ⟨y, hy⟩ : ∃ y, endN j fs = [y] := List.length_eq_one_iff.1 hel
     obtain ⟨k0, l0⟩ := y
     have hrl0 : read l = l0 := HFIN.out k0 l0 [] (by rw [← hjl]; exact hy)
     have hS := HS9.out
     rw [hy] at hS
     have hS : stkS.sl (kg w.heap.size (w.heap.size + 1)) wr (.slice p' 1 c') ([] ++ (k0, l0) :: []) := hS
     obtain ⟨b, o, kp, kc, rfl, hqb, hbl, hn, hnc, hcm, c0, c1, hLL⟩ := stk_at hS
     rw [hx1] at d0
     have hsl2 := insS.sl_on hLL (Kept.mono (q' := fun k => w.heap.size ≤ k) fun k hk _ => hk.1)
     have hln : l0.len = (read l).len := by rw [hrl0]
     rw [hln] at c1 hsl2
     rw [← hrl0] at hsl2
     have c1 : wr.cell? ⟨b, o + 1, none⟩ = some (.slice kp (read l).len kc) := by simpa using c1
     have HSL2 := Lib.hid hsl2
     have g2 : decide ((1 : Int) < 1) = false := by decide
     clear hC hx hS hLL hy hrl0 hsl2 hel hjl hx1 c0 hln hn hnc
     go_wp2_with fail
     go_ret
     exact ⟨_, _, rfl, HSL2.out, HB9.out⟩
theorem rparse_all : ∀ N, RParse N
 | 0 => fun t W h => absurd h (Nat.not_lt_zero _)
 | N + 1 => fun t W h hs => rparse_step N (rparse_all N) t W (by omega) hs
theorem rparse17_any (s : ByteArray) (w : World) (hs : s.size ≤ 100000000) : Calls Tryz.prog 77 #[.string s] w fun e w' =>
  ∃ p c, e = .returned (.slice p (read s.data.toList).len c) ∧ insS.sl (fun k => w.heap.size ≤ k) w' (.slice p (read s.data.toList).len c) (read s.data.toList) ∧ Below w.heap.size w w' :=
 rparse_all (s.size + 1) s w (Nat.lt_succ_self _) hs
end Go.Proofs.YthieinfonomeeaaGreatDoor
