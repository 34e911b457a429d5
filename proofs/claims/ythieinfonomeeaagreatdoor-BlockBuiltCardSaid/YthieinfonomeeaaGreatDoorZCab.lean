/-
  The claim's own texts, packed. Conditions: those typed in each theorem.
-/
import Derived.Test.YthieinfonomeeaaGreatDoorZAba
namespace Go.Proofs.YthieinfonomeeaaGreatDoor
open Go.RowKit Doc Tit Inl Blk
set_option linter.unusedVariables false
theorem sum_pos_nil {d : Nat} {l : List It} (hd : Deep d l) (h : sumD d l = 0) : l = [] := by
 cases l with
 | nil => rfl
 | cons x r => have := sumD_pos hd; omega
theorem eqs_min {x : Line} {n : Nat} {T : Line} (h : hd x = some (n, T)) : 1 ≤ n ∧ n ≤ 6 := by
 unfold hd hdT at h
 split at h
 ·cases h
 ·split at h
  ·cases h
  ·injection h with h
   injection h with h1 h2
   subst h1
   omega
end Go.Proofs.YthieinfonomeeaaGreatDoor
namespace Go.Proofs.YthieinfonomeeaaGreatDoor
open Go.RowKit Doc Tit Inl Blk
set_option linter.unusedVariables false
theorem join_cons (a : Line) : ∀ L : List Line, L ≠ [] → joinL (a :: L) = a ++ 10 :: joinL L
 | [], h => absurd rfl h
 | b :: r, _ => by rw [joinL]; simp
theorem join_snoc (x : Line) : ∀ L : List Line, joinL (L ++ [x]) = if L = [] then x else joinL L ++ 10 :: x
 | [] => rfl
 | [a] => by rw [List.singleton_append, joinL, if_neg (by simp)]; simp [joinL]
 | a :: b :: r => by
   have ih := join_snoc x (b :: r)
   rw [if_neg (by simp)] at ih ⊢
   rw [List.cons_append, join_cons a _ (by simp), ih, join_cons a _ (by simp)]
   simp
theorem kind1_pre {x : Line} (h : kindL x = 1) : Lib.hasPrefix x [123, 124] = true := by
 unfold kindL at h
 repeat' split at h
 all_goals first | assumption | (exfalso; omega)
end Go.Proofs.YthieinfonomeeaaGreatDoor
namespace Go.Proofs.YthieinfonomeeaaGreatDoor
open Go.RowKit Doc Tit Inl Blk
set_option linter.unusedVariables false
attribute [local go_sem ↓] Go.wp_at_zero Go.wp_at_succ
def ahead (x : Line) : List Line → List Line
 | [] => [x]
 | y :: r => (x ++ y) :: r
theorem ahead_nil {L : List Line} (h : L ≠ []) : ahead [] L = L := by
 cases L with
 | nil => exact absurd rfl h
 | cons y r => rfl
theorem ahead_onto (x : Line) (b : UInt8) {L : List Line} (h : L ≠ []) : ahead x (onto b L) = ahead (x ++ [b]) L := by
 cases L with
 | nil => exact absurd rfl h
 | cons y r => simp [ahead, onto]
theorem ahead_sep (c : UInt8) (x s : Line) : ahead x (spl c (c :: s)) = x :: spl c s := by rw [spl, if_pos rfl]; simp [ahead]
theorem ahead_byte {b c : UInt8} (h : b ≠ c) (x s : Line) : ahead x (spl c (b :: s)) = ahead (x ++ [b]) (spl c s) := by rw [spl, if_neg h, ahead_onto _ _ (spl_ne c s)]
theorem own_none (q : Nat → Prop) (w : World) : txS.own 9 q w.heap.size (w.alloc (.cells #[] 9)) (.slice (some ⟨w.heap.size, 0, none⟩) 0 0) [] :=
 ⟨[], ⟨rfl, .inr ⟨w.heap.size, 0, #[], rfl, Nat.le_refl _, Known.made w _ _, Nat.le_refl _, Nat.zero_le _, rfl, rfl⟩⟩, rfl⟩
theorem bl_app (a b : List ByteArray) : bl (a ++ b) = bl a ++ bl b := by simp [bl]
theorem ext_data (s : ByteArray) (i j : Nat) : (s.extract i j).data.toList = (s.data.toList.take j).drop i := by
 rw [ByteArray.data_extract, Array.toList_extract]
 rw [List.drop_take]
set_option maxRecDepth 10000 in
set_option maxHeartbeats 2000000 in
theorem lines12_any (s : ByteArray) (w : World) (hs : s.size ≤ 100000000) : Calls Tryz.prog 29 #[.string s] w fun e w' => ∃ (l : List ByteArray) (b c : Nat), e = .returned (.slice (some ⟨b, 0, none⟩) l.length c) ∧
  bl l = lines s.data.toList ∧ SL w' (some ⟨b, 0, none⟩) c l ∧ w.heap.size ≤ b ∧ b < w'.heap.size ∧ Below w.heap.size w w' := by
 have hz : s.data.toList.length = s.size := by simp
 have hdb := drop_byte s
 have hxd := ext_data s
 have hO0 := own_none (fun _ => False) w
 obtain ⟨l, hl⟩ : ∃ l, l = s.data.toList := ⟨_, rfl⟩
 rw [← hl] at hdb hz hxd ⊢
 have HDB := Lib.hid hdb
 have HXD := Lib.hid hxd
 have HO0 := Lib.hid hO0
 have HL := Lib.hid hl
 have HZ := Lib.hid hz
 have hb0 := below_new0 w (.cells #[] 9)
 clear hdb hxd hO0 hl hz
 go_enter Tryz.func29, Tryz.ntmps29
 go_wp2_with fail
 go_loopg [3, 4, 5] (s.size + 1) (fun g s3 s4 s5 wr => ∃ (i f : Nat) (P : List ByteArray), f ≤ i ∧ i ≤ s.size ∧ s.size < i + g ∧ s4 = .int .i64 f ∧ s5 = .int .i64 i ∧ P.length ≤ i ∧ txS.own 9 (fun _ => False) w.heap.size wr s3 P ∧ lines l = bl P ++ ahead ((l.take i).drop f) (spl 10 (l.drop i)) ∧ Below w.heap.size w wr)
 case atStart => exact ⟨0, 0, [], by omega, by omega, by omega, rfl, rfl, Nat.le_refl _, HO0.out, by rw [List.take_zero, List.drop_nil, List.drop_zero, ahead_nil (spl_ne 10 _)]; rfl, hb0⟩
 case round =>
  obtain ⟨i, f, P, hfi, hi1, hg, rfl, rfl, hPi, hown, hseg, hbw⟩ := hrel
  have hbz := hbw.size
  have hlenP : txS.len P = P.length := rfl
  have HSEG := Lib.hid hseg
  have HBW := Lib.hid hbw
  have HOWN := Lib.hid hown
  clear hseg hbw hown
  by_cases hin : i < s.size
  ·have g1 : decide (i < s.size) = true := decide_eq_true hin
   have h10 : s[i] = 10 ↔ s[i].toNat = 10 := u8_eq (by decide)
   have hdi := HDB.out i hin
   obtain ⟨c, hc⟩ : ∃ c, c = s[i] := ⟨_, rfl⟩
   rw [← hc] at hdi h10
   have HC := Lib.hid hc
   have HDI := Lib.hid hdi
   clear hc hdi
   have htk : (l.take (i + 1)).drop f = (l.take i).drop f ++ [c] := by
    have e : l.take (i + 1) = l.take i ++ [c] := by
     rw [List.take_add_one]
     congr 1
     have : l[i]? = (l.drop i)[0]? := by rw [List.getElem?_drop]; rfl
     rw [this, HDI.out]; rfl
    rw [e, List.drop_append_of_le_length (by rw [List.length_take, HZ.out]; omega)]
   by_cases h1 : c.toNat = 10
   ·have g2 : ((s[i].toNat : Int) == 10) = true := by rw [← HC.out]; simp; omega
    obtain ⟨T, hT⟩ : ∃ T, T = s.extract f i := ⟨_, rfl⟩
    have hTd : T.data.toList = (l.take i).drop f := by rw [hT, HXD.out]
    have hn : lines l = bl (P ++ [T]) ++ ahead ((l.take (i + 1)).drop (i + 1)) (spl 10 (l.drop (i + 1))) := by
     rw [HSEG.out, HDI.out, h10.2 h1, ahead_sep, bl_app]
     have e : (l.take (i + 1)).drop (i + 1) = [] := List.drop_eq_nil_of_le (by rw [List.length_take]; omega)
     rw [e, ahead_nil (spl_ne 10 _)]
     show _ = (bl P ++ [T.data.toList]) ++ _
     rw [hTd]; simp
    have HN := Lib.hid hn
    have hoA := HOWN.out.below (below_new0 wr (.cells #[.string T] 9))
    have HOA := Lib.hid hoA
    have HT := Lib.hid hT
    have hT2 : s.extract f i = T := hT.symm
    have hzW : w.heap.size ≤ (wr.alloc (.cells #[.string T] 9)).heap.size := by rw [World.size_alloc]; omega
    clear hn h10 h1 htk hoA hT hTd
    go_wp2_with (at_builtin; go_must (refine append_shp txS tyT _ rfl _ _ rfl HOA.out rfl (src_tx (s := T)) rfl (by rw [hlenP]; show (P.length + 1) * 17 ≤ _; omega) hzW ?_); intro v' w3 O3 hgrow hbel hkd)
    have hbn := hbel w (below_then HBW.out (below_new0 _ _))
    clear hgrow hbel hkd
    go_wp2_with fail
    go_roundg (s.size - i)
    case measure => omega
    case rel => exact ⟨i + 1, i + 1, P ++ [T], by omega, by omega, by omega, by go_num, by go_num, by rw [List.length_append]; show P.length + 1 ≤ _; omega, O3, HN.out, hbn⟩
   ·have g2 : ((s[i].toNat : Int) == 10) = false := by rw [← HC.out]; simp; omega
    have hn : lines l = bl P ++ ahead ((l.take (i + 1)).drop f) (spl 10 (l.drop (i + 1))) := by
     rw [HSEG.out, HDI.out, ahead_byte (fun e => h1 (h10.1 e)), htk]
    have HN := Lib.hid hn
    clear hn h10 h1 htk
    go_wp2_with fail
    go_roundg (s.size - i)
    case measure => omega
    case rel => exact ⟨i + 1, f, P, by omega, by omega, by omega, rfl, by go_num, by omega, HOWN.out, HN.out, HBW.out⟩
  ·have hie : i = s.size := by omega
   subst hie
   have g1 : decide (s.size < s.size) = false := by simp
   obtain ⟨T, hT⟩ : ∃ T, T = s.extract f s.size := ⟨_, rfl⟩
   have hTd : T.data.toList = (l.take s.size).drop f := by rw [hT, HXD.out]
   have hn : lines l = bl (P ++ [T]) := by
    have e0 : l.drop s.size = [] := List.drop_eq_nil_of_le (by rw [HZ.out]; exact Nat.le_refl _)
    rw [HSEG.out, bl_app, e0, ← hTd]
    show bl P ++ [T.data.toList ++ []] = bl P ++ [T.data.toList]
    rw [List.append_nil]
   have HN := Lib.hid hn
   have hoA := HOWN.out.below (below_new0 wr (.cells #[.string T] 9))
   have HOA := Lib.hid hoA
   have hT2 : s.extract f s.size = T := hT.symm
   have hzW : w.heap.size ≤ (wr.alloc (.cells #[.string T] 9)).heap.size := by rw [World.size_alloc]; omega
   have hlen3 : txS.len (P ++ [T]) = P.length + 1 := by show (P ++ [T]).length = _; rw [List.length_append]; rfl
   clear hn hoA hT hTd hin
   go_wp2_with (at_builtin; go_must (refine append_shp txS tyT _ rfl _ _ rfl HOA.out rfl (src_tx (s := T)) rfl (by rw [hlenP]; show (P.length + 1) * 17 ≤ _; omega) hzW ?_); intro v' w3 O3 hgrow hbel hkd)
   have hbn := hbel w (below_then HBW.out (below_new0 _ _))
   clear hgrow hbel hkd
   have O3' : txS.own 9 (fun _ => False) w.heap.size w3 v' (P ++ [T]) := O3
   have hlt := O3'.lt
   obtain ⟨p', c', hvv⟩ := O3'.form
   rw [hlen3] at hvv
   subst hvv
   have h4 := SL.of_sl (p := p') (c := c') (l := P ++ [T]) (by
    have := O3'.sl
    have e : (P ++ [T]).length = P.length + 1 := hlen3
    rw [e]; exact this)
   have h5 : ∃ b, p' = some ⟨b, 0, none⟩ ∧ w.heap.size ≤ b ∧ b < w3.heap.size := by
    obtain ⟨xs, h6, _⟩ := O3'
    rw [hlen3] at h6
    obtain ⟨g', cap', h7, h8, h9, h10, _⟩ := own_block h6 (Nat.succ_pos _)
    injection h7 with h7 _ _
    exact ⟨g', h7, h9, h10⟩
   obtain ⟨b, rfl, hb1, hb2⟩ := h5
   have H4 := Lib.hid h4
   clear O3 O3' hlt h4
   go_wp2_with fail
   go_ret
   exact ⟨P ++ [T], b, c', by show Ending.returned (.slice _ (P.length + 1) _) = .returned (.slice _ (P ++ [T]).length _); rw [show (P ++ [T]).length = P.length + 1 from hlen3], HN.out.symm, H4.out, hb1, hb2, hbn⟩
end Go.Proofs.YthieinfonomeeaaGreatDoor
namespace Go.Proofs.YthieinfonomeeaaGreatDoor
open Go.RowKit Doc Tit Inl Blk
set_option linter.unusedVariables false
end Go.Proofs.YthieinfonomeeaaGreatDoor
