/-
  The claim's own texts, packed. Conditions: those typed in each theorem.
-/
import Derived.Test.YthieinfonomeeaaGreatDoorZRac
import Derived.Test.YthieinfonomeeaaGreatDoorZRae
import Derived.Test.YthieinfonomeeaaGreatDoorZAaz
import Derived.Test.YthieinfonomeeaaGreatDoorZRaa
import Derived.Test.YthieinfonomeeaaGreatDoorZAba
namespace Go.Proofs.YthieinfonomeeaaGreatDoor
open Go.RowKit Doc Tit Inl Blk
set_option linter.unusedVariables false
set_option linter.unusedSimpArgs false
attribute [local go_sem ↓] Go.wp_at_zero Go.wp_at_succ
def ccs : List Cell → List Value
 | [] => []
 | (k, t) :: r => .int .i64 (k : Int) :: .string ⟨t.toArray⟩ :: ccs r
theorem ccs_app : ∀ a b : List Cell, ccs (a ++ b) = ccs a ++ ccs b
 | [], b => rfl
 | (x, y) :: r, b => by simp [ccs, ccs_app r b]
theorem ccs_len : ∀ a : List Cell, (ccs a).length = a.length * 2
 | [] => rfl
 | (x, y) :: r => by simp [ccs, ccs_len r]; omega
theorem ccs_one : ∀ a : List Cell, ∀ u ∈ ccs a, u.oneCell' = true
 | [], u, h => by cases h
 | (x, y) :: r, u, h => by
   simp only [ccs, List.mem_cons] at h
   rcases h with rfl | rfl | h
   ·rfl
   ·rfl
   ·exact ccs_one r u h
theorem ccs_at : ∀ (l : List Cell) (j k : Nat) (t : Line), l[j]? = some (k, t) → (ccs l)[j * 2]? = some (.int .i64 (k : Int)) ∧ (ccs l)[j * 2 + 1]? = some (.string ⟨t.toArray⟩)
 | [], j, k, t, h => by simp at h
 | (a, b) :: r, 0, k, t, h => by
   have : (a, b) = (k, t) := by simpa using h
   cases this
   exact ⟨rfl, rfl⟩
 | (a, b) :: r, j + 1, k, t, h => by
   have ih := ccs_at r j k t (by simpa using h)
   rw [show (j + 1) * 2 = j * 2 + 2 by omega]
   exact ih
def rclS : Shp (List Cell) where
 len := List.length
 app := fun a b => a ++ b
 sz := 2
 enc := fun _ _ l xs => xs = ccs l
 nil := []
 enc_nil := fun _ _ => rfl
 len_nil := rfl
 nil_of := fun L h => List.length_eq_zero_iff.1 h
 on := fun _ h => h
 join := fun h k => by rw [h, k, ccs_app]
 length := fun h => by rw [h, ccs_len]
 ones := fun h u hu => by rw [h] at hu; exact ccs_one _ u hu
 len_app := fun a b => List.length_append
theorem tyRC : Typ Tryz.prog 128 132 rclS.sz 24 := Typ.mk' (z := .agg #[.int .i64 0, .string ByteArray.empty]) Tryz.underlying128 (by kernel_rfl) rfl (by decide)
theorem src_rc {q : Nat → Prop} {w : World} {k : Nat} {t : Line} {ty : TypeId} : rclS.src q (w.alloc (.cells #[.int .i64 (k : Int), .string ⟨t.toArray⟩] ty)) (.slice (some ⟨w.heap.size, 0, none⟩) 1 1) [(k, t)] := ⟨_, Src.new w ty _ 1 1, rfl⟩
def CSL (w : World) (p : Option Addr) (c : Nat) (l : List Cell) : Prop :=
 l.length ≤ c ∧ c ≤ 9223372036854775807 ∧ (l = [] ∨ ∃ b o, p = some ⟨b, o, none⟩ ∧ b < w.heap.size ∧ ∀ (j k : Nat) (t : Line), l[j]? = some (k, t) → w.cell? ⟨b, o + j * 2, none⟩ = some (.int .i64 (k : Int)) ∧ w.cell? ⟨b, o + j * 2 + 1, none⟩ = some (.string ⟨t.toArray⟩))
theorem CSL.of_sl {q : Nat → Prop} {w : World} {p : Option Addr} {c : Nat} {l : List Cell} (h : rclS.sl q w (.slice p l.length c) l) : CSL w p c l := by
 obtain ⟨p', c', h1, h2, h3, h4, h5⟩ := h
 injection h1 with e1 e2 e3
 subst e1 e3
 refine ⟨h2, h3, ?_⟩
 rcases h5 with h5 | ⟨b, o, ys, rfl, hq, hl, hA, hE⟩
 ·exact .inl (List.length_eq_zero_iff.1 h5)
 ·refine .inr ⟨b, o, rfl, hl, fun j k t hj => ?_⟩
  have h6 : ys = ccs l := hE
  obtain ⟨h7, h8⟩ := ccs_at l j k t hj
  rw [← h6] at h7 h8
  exact ⟨hA _ _ h7, by rw [Nat.add_assoc]; exact hA _ _ h8⟩
theorem src_bls0 {q : Nat → Prop} {w : World} {a l : Int} {t : ByteArray} {n : Ins} {u : Value} {ty : TypeId} (hn : insS.sl q w u n) :
  blsS.src q (w.alloc (.cells #[.int .i64 a, .int .i64 l, .string t, u, .slice none 0 0] ty)) (.slice (some ⟨w.heap.size, 0, none⟩) 1 1) (.cons a l t n .nil .nil) := src_bls hn Sl.empty
set_option maxRecDepth 20000 in
set_option maxHeartbeats 4000000 in
theorem rrow_any (l : List Cell) (p : Option Addr) (c : Nat) (w : World) (hl : l.length ≤ 100000000) (hz : ∀ x ∈ l, x.2.length ≤ 100000000) (hv : CSL w p c l) :
  Calls Tryz.prog 107 #[.slice p l.length c] w fun e w' => ∃ kp kc, e = .returned (.tuple #[.agg #[.int .i64 8, .int .i64 0, .string ⟨#[]⟩, .slice none 0 0, .slice kp (cellsB l).len kc], .bool (decide (0 < l.length))]) ∧
   blsS.sl (fun k => w.heap.size ≤ k) w' (.slice kp (cellsB l).len kc) (cellsB l) ∧ Below w.heap.size w w' := by
 have hnc := hv.1
 have hcm := hv.2.1
 have hin : ∀ j, j < l.length → ∃ (k : Nat) (t : Line), l[j]? = some (k, t) ∧ t.length ≤ 100000000 ∧ ∃ b o, p = some ⟨b, o, none⟩ ∧ b < w.heap.size ∧ w.cell? ⟨b, o + j * 2, none⟩ = some (.int .i64 (k : Int)) ∧ w.cell? ⟨b, o + j * 2 + 1, none⟩ = some (.string ⟨t.toArray⟩) := by
  intro j hj
  obtain ⟨y, hy⟩ : ∃ y, l[j]? = some y := ⟨_, List.getElem?_eq_getElem hj⟩
  obtain ⟨k, t⟩ := y
  rcases hv.2.2 with h | ⟨b, o, h2, h3, h4⟩
  ·rw [h] at hj; cases hj
  ·exact ⟨k, t, hy, hz _ (List.mem_of_getElem? hy), b, o, h2, h3, h4 j k t hy⟩
 obtain ⟨n, hn⟩ : ∃ n, n = l.length := ⟨_, rfl⟩
 rw [← hn] at hnc hin hl ⊢
 have HIN := Lib.hid hin
 have HN := Lib.hid hn
 clear hin hv hz hn
 have K0 := Known.made w 44 #[.int .i64 0, .int .i64 0, .string ⟨#[]⟩, .slice none 0 0, .slice none 0 0]
 go_enter Tryz.func107, Tryz.ntmps107
 go_wp2_with fail
 refine name_wb ?_
 intro W0 hW0
 have hK4 : Known W0 (w.heap.size + 1) 44 #[.int .i64 8, .int .i64 0, .string ⟨#[]⟩, .slice none 0 0, .slice none 0 0] := by
  rw [hW0]
  have := Known.made (w.alloc (.cells #[.int .i64 0, .int .i64 0, .string ⟨#[]⟩, .slice none 0 0, .slice none 0 0] 44)) 44 #[.int .i64 8, .int .i64 0, .string ⟨#[]⟩, .slice none 0 0, .slice none 0 0]
  rwa [World.size_alloc] at this
 have hK2 : Known W0 w.heap.size 44 #[.int .i64 0, .int .i64 0, .string ⟨#[]⟩, .slice none 0 0, .slice none 0 0] := by rw [hW0]; exact K0.alloc _
 have hb0 : Below w.heap.size w W0 := by rw [hW0]; exact below_then (below_new0 _ _) (below_new0 _ _)
 have hz0 : W0.heap.size = w.heap.size + 2 := by rw [hW0]; simp
 have HK4 := Lib.hid hK4
 have HK2 := Lib.hid hK2
 have HB0 := Lib.hid hb0
 clear hW0 hK4 hK2 hb0 K0
 go_loopg [5] (n + 1) (fun g s5 wr => ∃ (j : Nat) (kv : Value), s5 = .int .i64 j ∧ j ≤ n ∧ n < j + g ∧ Known wr (w.heap.size + 1) 44 #[.int .i64 8, .int .i64 0, .string ⟨#[]⟩, .slice none 0 0, kv] ∧ Known wr w.heap.size 44 #[.int .i64 0, .int .i64 0, .string ⟨#[]⟩, .slice none 0 0, .slice none 0 0] ∧
  blsS.own 44 (fun _ => False) (w.heap.size + 2) wr kv (cellsB (l.take j)) ∧ w.heap.size + 2 ≤ wr.heap.size ∧ Below w.heap.size w wr)
 case atStart => exact ⟨0, _, rfl, by omega, by omega, HK4.out, HK2.out, Shp.own.nil, by omega, HB0.out⟩
 case round =>
  obtain ⟨j, kv, rfl, hj, hg, K4, K2, hown, hzr, hb⟩ := hrel
  have hlen : blsS.len (cellsB (l.take j)) = j := by
   show (cellsB (l.take j)).len = j
   rw [cellsB_len, List.length_take, ← HN.out]; omega
  by_cases hjn : j < n
  ·obtain ⟨k, t, hy, htz, b, o, rfl, hbl, c0, c1⟩ := HIN.out j hjn
   have g1 : decide (j < n) = true := decide_eq_true hjn
   have d0 := (hb.cell (p := ⟨b, o + j * 2, none⟩) hbl).trans c0
   have d1 := (hb.cell (p := ⟨b, o + j * 2 + 1, none⟩) hbl).trans c1
   have hbl2 : b < wr.heap.size := by omega
   have htk : cellsB (l.take (j + 1)) = (cellsB (l.take j)).app (.cons 9 (k : Int) ⟨#[]⟩ (read (trimW ws4 t)) .nil .nil) := by
    rw [List.take_add_one, hy, cellsB_app]; rfl
   obtain ⟨T, hT⟩ : ∃ T : ByteArray, ⟨t.toArray⟩ = T := ⟨_, rfl⟩
   have hTd : T.data.toList = t := by rw [← hT]
   have hTz : T.size ≤ 100000000 := by have : T.data.toList.length = T.size := (by simp); rw [hTd] at this; omega
   rw [hT] at d1 c1
   have hTR := fun W => rtrim_any T W hTz
   rw [hTd] at hTR
   obtain ⟨Y, hY⟩ : ∃ Y : ByteArray, ⟨(trimW ws4 t).toArray⟩ = Y := ⟨_, rfl⟩
   have hYd : Y.data.toList = trimW ws4 t := by rw [← hY]
   have hYz : Y.size ≤ 100000000 := by
    have h1 := trimW_le ws4 t
    rw [← hYd] at h1
    have h3 : Y.data.toList.length = Y.size := by simp
    omega
   rw [hY] at hTR
   have hCP := fun W => rparse17_any Y W hYz
   rw [hYd] at hCP
   obtain ⟨R, hR⟩ : ∃ R, read (trimW ws4 t) = R := ⟨_, rfl⟩
   rw [hR] at hCP htk
   have x4 := K4.cell 4
   have f4 := K4.free 4
   have hl4 := K4.lt
   have hOW : ∀ W, Below wr.heap.size wr W → blsS.own 44 (fun _ => False) (w.heap.size + 2) W kv (cellsB (l.take j)) := fun W hb => hown.below hb
   have hK4W : ∀ W, Below (w.heap.size + 2) wr W → Known W (w.heap.size + 1) 44 #[.int .i64 8, .int .i64 0, .string ⟨#[]⟩, .slice none 0 0, kv] := fun W hb => K4.below hb (by omega)
   have hSC : ∀ W, Below (w.heap.size + 2) wr W → W.cell? ⟨w.heap.size + 1, 4, none⟩ = some kv ∧ W.cell? ⟨b, o + j * 2, none⟩ = some (.int .i64 (k : Int)) ∧ W.cell? ⟨b, o + j * 2 + 1, none⟩ = some (.string T) := fun W hb =>
    ⟨(hK4W W hb).cell 4, (hb.cell (p := ⟨b, o + j * 2, none⟩) (by show b < _; omega)).trans d0, (hb.cell (p := ⟨b, o + j * 2 + 1, none⟩) (by show b < _; omega)).trans d1⟩
   have HSC := Lib.hid hSC
   have HK4W := Lib.hid hK4W
   have HTR := Lib.hid hTR
   have HCP := Lib.hid hCP
   have HOW := Lib.hid hOW
   have HTK := Lib.hid htk
   have HLEN := Lib.hid hlen
   have HK2r := Lib.hid K2
   have HB := Lib.hid hb
   have hltk := hown.lt
   have HLTK := Lib.hid hltk
   clear hTR hCP hOW htk hlen K4 K2 hb hown hltk hY hYd hT hTd hR hy c0 c1 hSC hK4W d0 d1 x4 f4
   have hb : Below wr.heap.size wr wr.drew := (Below.refl _ _).drew
   have hzl : w.heap.size ≤ wr.heap.size := by omega
   obtain ⟨x4, d0, d1⟩ := HSC.out _ (hb.mono hzr)
   have hg1 : w.heap.size + 1 < wr.drew.heap.size := (HK4W.out _ (hb.mono hzr)).lt
   go_upto_region 5 with fail
   refine wp_region_split (S := (fun W => W.cell? ⟨w.heap.size + 1, 4, none⟩ = some kv ∧ W.cell? ⟨b, o + j * 2, none⟩ = some (.int .i64 (k : Int)) ∧ W.cell? ⟨b, o + j * 2 + 1, none⟩ = some (.string T))) 17 (by kernel_rfl) (by kernel_rfl) (HSC.out _ (hb.mono hzr)) (fun hHeld => ?_)
   simp only [List.take_succ_cons, List.take_zero, List.drop_succ_cons, List.drop_zero]
   refine wpAnyH_take (i := 0) (v := ?_) rfl (by kernel_rfl) (by kernel_rfl) (by kernel_rfl) (fun _ _ _ h => h) (Or.inl ⟨by rfl, ?_⟩) (by assumption) ?_
   rotate_left
   ·intro W9 hSw; (try dsimp only at hSw); go_simp <;> with_reducible rfl
   try simp only [Act.put, List.setIfInBounds_toArray, List.set_cons_zero, List.set_cons_succ, List.getElem_toArray, List.getElem_cons_succ, List.getElem_cons_zero]
   refine wpAnyH_take (i := 1) (v := ?_) rfl (by kernel_rfl) (by kernel_rfl) (by kernel_rfl) (fun _ _ _ h => h) (Or.inl ⟨by rfl, ?_⟩) (by assumption) ?_
   rotate_left
   ·intro W9 hSw; (try dsimp only at hSw); go_simp <;> with_reducible rfl
   try simp only [Act.put, List.setIfInBounds_toArray, List.set_cons_zero, List.set_cons_succ, List.getElem_toArray, List.getElem_cons_succ, List.getElem_cons_zero]
   refine wpAnyH_take (i := 2) (v := ?_) rfl (by kernel_rfl) (by kernel_rfl) (by kernel_rfl) (fun _ _ _ h => h) (Or.inl ⟨by rfl, ?_⟩) (by assumption) ?_
   rotate_left
   ·intro W9 hSw; (try dsimp only at hSw); go_simp <;> with_reducible rfl
   try simp only [Act.put, List.setIfInBounds_toArray, List.set_cons_zero, List.set_cons_succ, List.getElem_toArray, List.getElem_cons_succ, List.getElem_cons_zero]
   refine wpAnyH_take (i := 3) (v := ?_) rfl (by kernel_rfl) (by kernel_rfl) (by kernel_rfl) (fun _ _ _ h => h) (Or.inl ⟨by rfl, ?_⟩) (by assumption) ?_
   rotate_left
   ·intro W9 hSw; (try dsimp only at hSw); go_simp <;> with_reducible rfl
   try simp only [Act.put, List.setIfInBounds_toArray, List.set_cons_zero, List.set_cons_succ, List.getElem_toArray, List.getElem_cons_succ, List.getElem_cons_zero]
   refine wpAnyH_take (i := 4) (v := ?_) rfl (by kernel_rfl) (by kernel_rfl) (by kernel_rfl) (fun _ _ _ h => h) (Or.inl ⟨by rfl, ?_⟩) (by assumption) ?_
   rotate_left
   ·intro W9 hSw; (try dsimp only at hSw); go_simp <;> with_reducible rfl
   try simp only [Act.put, List.setIfInBounds_toArray, List.set_cons_zero, List.set_cons_succ, List.getElem_toArray, List.getElem_cons_succ, List.getElem_cons_zero]
   refine wpAnyH_take (i := 5) (v := ?_) rfl (by kernel_rfl) (by kernel_rfl) (by kernel_rfl) (fun _ _ _ h => h) (Or.inl ⟨by rfl, ?_⟩) (by assumption) ?_
   rotate_left
   ·intro W9 hSw; (try dsimp only at hSw); go_simp <;> with_reducible rfl
   try simp only [Act.put, List.setIfInBounds_toArray, List.set_cons_zero, List.set_cons_succ, List.getElem_toArray, List.getElem_cons_succ, List.getElem_cons_zero]
   refine wpAnyH_take (i := 6) (v := ?_) rfl (by kernel_rfl) (by kernel_rfl) (by kernel_rfl) (fun _ _ _ h => h) (Or.inl ⟨by rfl, ?_⟩) (by assumption) ?_
   rotate_left
   ·intro W9 hSw; (try dsimp only at hSw); go_simp <;> with_reducible rfl
   try simp only [Act.put, List.setIfInBounds_toArray, List.set_cons_zero, List.set_cons_succ, List.getElem_toArray, List.getElem_cons_succ, List.getElem_cons_zero]
   refine wpAnyH_take (i := 7) (v := ?_) rfl (by kernel_rfl) (by kernel_rfl) (by kernel_rfl) (fun _ _ _ h => h) (Or.inl ⟨by rfl, ?_⟩) (by assumption) ?_
   rotate_left
   ·intro W9 hSw; (try dsimp only at hSw); go_simp <;> with_reducible rfl
   try simp only [Act.put, List.setIfInBounds_toArray, List.set_cons_zero, List.set_cons_succ, List.getElem_toArray, List.getElem_cons_succ, List.getElem_cons_zero]
   refine wpAnyH_take (i := 8) (v := ?_) rfl (by kernel_rfl) (by kernel_rfl) (by kernel_rfl) (fun _ _ _ h => h) (Or.inl ⟨by rfl, ?_⟩) (by assumption) ?_
   rotate_left
   ·intro W9 hSw; (try dsimp only at hSw); go_simp <;> with_reducible rfl
   try simp only [Act.put, List.setIfInBounds_toArray, List.set_cons_zero, List.set_cons_succ, List.getElem_toArray, List.getElem_cons_succ, List.getElem_cons_zero]
   refine wpAnyH_take (i := 9) (v := ?_) rfl (by kernel_rfl) (by kernel_rfl) (by kernel_rfl) (fun _ _ _ h => h) (Or.inl ⟨by rfl, ?_⟩) (by assumption) ?_
   rotate_left
   ·intro W9 hSw; (try dsimp only at hSw); go_simp <;> with_reducible rfl
   try simp only [Act.put, List.setIfInBounds_toArray, List.set_cons_zero, List.set_cons_succ, List.getElem_toArray, List.getElem_cons_succ, List.getElem_cons_zero]
   refine wpAnyH_take (i := 10) (v := ?_) rfl (by kernel_rfl) (by kernel_rfl) (by kernel_rfl) (fun _ _ _ h => h) (Or.inl ⟨by rfl, ?_⟩) (by assumption) ?_
   rotate_left
   ·intro W9 hSw; (try dsimp only at hSw); go_simp <;> with_reducible rfl
   try simp only [Act.put, List.setIfInBounds_toArray, List.set_cons_zero, List.set_cons_succ, List.getElem_toArray, List.getElem_cons_succ, List.getElem_cons_zero]
   refine wpAnyH_take (i := 11) (v := ?_) rfl (by kernel_rfl) (by kernel_rfl) (by kernel_rfl) (fun _ _ _ h => h) (Or.inl ⟨by rfl, ?_⟩) (by assumption) ?_
   rotate_left
   ·intro W9 hSw; (try dsimp only at hSw); go_simp <;> with_reducible rfl
   try simp only [Act.put, List.setIfInBounds_toArray, List.set_cons_zero, List.set_cons_succ, List.getElem_toArray, List.getElem_cons_succ, List.getElem_cons_zero]
   refine wpAnyH_ready (rs := [12]) (by kernel_rfl) (by simp) ?_
   refine AllReadyH.cons rfl (fun K hK => ?_) AllReadyH.nil
   rw [if_pos (by rfl)]
   go_simp
   (go_at_call 105; (with_reducible refine (HTR.out _).mono ?_); rintro e w2 ⟨rfl, rfl⟩)
   refine hK.out _ _ (HSC.out _ (hb.mono hzr)) (fun hHeld => ?_)
   clear hK K
   try simp only [Act.put, List.setIfInBounds_toArray, List.set_cons_zero, List.set_cons_succ, List.getElem_toArray, List.getElem_cons_succ, List.getElem_cons_zero]
   refine wpAnyH_ready (rs := [13]) (by kernel_rfl) (by simp) ?_
   refine AllReadyH.cons rfl (fun K hK => ?_) AllReadyH.nil
   rw [if_pos (by rfl)]
   go_simp
   (go_at_call 77; (with_reducible refine (HCP.out _).mono ?_); rintro e w3 ⟨ip, ic, rfl, hsl, hb3⟩; have hb := below_then hb hb3)
   refine hK.out _ _ (HSC.out _ (hb.mono hzr)) (fun hHeld => ?_)
   clear hK K
   try simp only [Act.put, List.setIfInBounds_toArray, List.set_cons_zero, List.set_cons_succ, List.getElem_toArray, List.getElem_cons_succ, List.getElem_cons_zero]
   refine wpAnyH_take (i := 14) (v := ?_) rfl (by kernel_rfl) (by kernel_rfl) (by kernel_rfl) (fun _ _ _ h => h) (Or.inl ⟨by rfl, ?_⟩) (by assumption) ?_
   rotate_left
   ·intro W9 hSw; (try dsimp only at hSw); go_simp <;> with_reducible rfl
   try simp only [Act.put, List.setIfInBounds_toArray, List.set_cons_zero, List.set_cons_succ, List.getElem_toArray, List.getElem_cons_succ, List.getElem_cons_zero]
   refine wpAnyH_ready (rs := [15]) (by kernel_rfl) (by simp) ?_
   refine AllReadyH.cons rfl (fun K hK => ?_) AllReadyH.nil
   go_simp
   refine hK.out _ _ (HSC.out _ ((below_then hb (below_new0 _ _)).mono hzr)) (fun hHeld => ?_)
   clear hK K
   try simp only [Act.put, List.setIfInBounds_toArray, List.set_cons_zero, List.set_cons_succ, List.getElem_toArray, List.getElem_cons_succ, List.getElem_cons_zero]
   refine wpAnyH_ready (rs := [16]) (by kernel_rfl) (by simp) ?_
   refine AllReadyH.cons rfl (fun K hK => ?_) AllReadyH.nil
   (refine step_append_shp blsS tyB _ (by rfl) _ _ (by rfl) (HOW.out _ (below_then hb (below_new0 _ _))) (by rfl) (src_bls0 (insS.sl_on hsl (Kept.mono fun q hq _ => ⟨.inr (by have := hb3.size; have := hb.size; have : wr.heap.size ≤ q := hq; omega), fun e => by have := (HLTK.out q e).2; have : wr.heap.size ≤ q := hq; omega⟩))) (by rfl) (by rw [HLEN.out]; show (j + 1) * 81 ≤ _; omega) (by rw [World.size_alloc]; have := hb.size; omega) ?_; intro v' w5 O5 hgrow hbel hkd; have hb5 : Below (w.heap.size + 2) wr w5 := hbel _ ((below_then hb (below_new0 _ _)).mono hzr))
   refine hK.out _ _ (HSC.out _ hb5) (fun hHeld => ?_)
   clear hK K
   try simp only [Act.put, List.setIfInBounds_toArray, List.set_cons_zero, List.set_cons_succ, List.getElem_toArray, List.getElem_cons_succ, List.getElem_cons_zero]
   refine wpAnyH_done (by kernel_rfl) ?_ _
   refine tailPost_normal ?_
   have f5 := (HK4W.out _ hb5).free 4
   have x5 := (HK4W.out _ hb5).cell 4
   have hl5 := (HK4W.out _ hb5).lt
   obtain ⟨pk5, ck5, hv5⟩ := O5.form
   subst hv5
   have K5 := (HK4W.out _ hb5).put 4 (.slice pk5 (blsS.len (blsS.app (cellsB (l.take j)) (.cons 9 (k : Int) ⟨#[]⟩ R .nil .nil))) ck5)
   have hltO := O5.lt
   have O6 : blsS.own 44 (fun _ => False) (w.heap.size + 2) (w5.setCell ⟨w.heap.size + 1, 4, none⟩ (.slice pk5 (blsS.len (blsS.app (cellsB (l.take j)) (.cons 9 (k : Int) ⟨#[]⟩ R .nil .nil))) ck5)) (.slice pk5 (blsS.len (blsS.app (cellsB (l.take j)) (.cons 9 (k : Int) ⟨#[]⟩ R .nil .nil))) ck5) (cellsB (l.take (j + 1))) := by
    rw [HTK.out]
    obtain ⟨xs, h1, h2⟩ := O5
    exact ⟨xs, own_on h1 (fun q hq => Below.heap_setCell _ _ _ _ (show q ≠ w.heap.size + 1 by have := (hltO q hq).1; omega)), blsS.on (Kept.put (fun q hq => by
     rcases hq.1 with h | h
     ·exact h.elim
     ·omega) 4 _) h2⟩
   have K6 := (HK2r.out.below hb5 (by omega)).far (p := ⟨w.heap.size + 1, 4, none⟩) (by show w.heap.size ≠ w.heap.size + 1; omega) (.slice pk5 (blsS.len (blsS.app (cellsB (l.take j)) (.cons 9 (k : Int) ⟨#[]⟩ R .nil .nil))) ck5)
   have hb6 : Below w.heap.size w (w5.setCell ⟨w.heap.size + 1, 4, none⟩ (.slice pk5 (blsS.len (blsS.app (cellsB (l.take j)) (.cons 9 (k : Int) ⟨#[]⟩ R .nil .nil))) ck5)) := (HB.out.trans (hb5.mono (by omega))).setCell (p := ⟨w.heap.size + 1, 4, none⟩) (by show w.heap.size ≤ w.heap.size + 1; omega) _
   have hz6 : w.heap.size + 2 ≤ (w5.setCell ⟨w.heap.size + 1, 4, none⟩ (.slice pk5 (blsS.len (blsS.app (cellsB (l.take j)) (.cons 9 (k : Int) ⟨#[]⟩ R .nil .nil))) ck5)).heap.size := by rw [World.size_setCell]; have := hb5.size; omega
   have H5 := Lib.hid K5
   have H6 := Lib.hid K6
   have HO6 := Lib.hid O6
   clear K5 K6 O6 O5 hgrow hbel hkd
   go_wp2_with fail
   go_roundg (n - j)
   case measure => omega
   case rel => exact ⟨j + 1, _, by go_num, by omega, by omega, H5.out, H6.out, HO6.out, hz6, hb6⟩
  ·have hje : j = n := by omega
   have g1 : decide (j < n) = false := decide_eq_false hjn
   have htk : l.take j = l := List.take_of_length_le (by rw [hje, ← HN.out]; exact Nat.le_refl _)
   rw [htk] at hown
   obtain ⟨pk, ck, hkv⟩ := hown.form
   replace hkv : kv = .slice pk (cellsB l).len ck := hkv
   have hsl := hown.sl
   subst hkv
   have h4 : blsS.sl (fun k => w.heap.size ≤ k ∧ k ≠ w.heap.size) wr (.slice pk (cellsB l).len ck) (cellsB l) := blsS.sl_on hsl (Kept.mono fun k hk _ => by rcases hk with h | h; exact h.elim; omega)
   obtain ⟨x0, x1, x2, x3, x4⟩ := K4.five
   have hl4 := K4.lt
   obtain ⟨y0, y1, y2, y3, y4⟩ := K2.five
   have f0 := K2.free 0
   have f1 := K2.free 1
   have f2 := K2.free 2
   have f3 := K2.free 3
   have f4 := K2.free 4
   have hl2 := K2.lt
   have H4 := Lib.hid h4
   have HK2r := Lib.hid K2
   have HB := Lib.hid hb
   clear hsl h4 hown K4 K2 hb htk hlen hje hjn
   go_wp2_with fail
   have K5 := ((((HK2r.out.put 0 (.int .i64 8)).put 1 (.int .i64 0)).put 2 (.string ⟨#[]⟩)).put 3 (.slice none 0 0)).put 4 (.slice pk (cellsB l).len ck)
   obtain ⟨z0, z1, z2, z3, z4⟩ := K5.five
   exact bodyPost_ret (v := .tuple #[.agg #[.int .i64 8, .int .i64 0, .string ⟨#[]⟩, .slice none 0 0, .slice pk (cellsB l).len ck], .bool (decide (0 < n))]) (by simp [results, Tryz.results107, go_sem, z0, z1, z2, z3, z4]) rfl
    ⟨pk, ck, rfl, blsS.sl_on (blsS.sl_on H4.out ((((Kept.put (fun k hk => hk.2) 0 _).trans (Kept.put (fun k hk => hk.2) 1 _)).trans (Kept.put (fun k hk => hk.2) 2 _)).trans ((Kept.put (fun k hk => hk.2) 3 _).trans (Kept.put (fun k hk => hk.2) 4 _)))) (Kept.mono fun k hk _ => hk.1),
     ((((HB.out.setCell (p := ⟨w.heap.size, 0, none⟩) (Nat.le_refl _) _).setCell (p := ⟨w.heap.size, 1, none⟩) (Nat.le_refl _) _).setCell (p := ⟨w.heap.size, 2, none⟩) (Nat.le_refl _) _).setCell (p := ⟨w.heap.size, 3, none⟩) (Nat.le_refl _) _).setCell (p := ⟨w.heap.size, 4, none⟩) (Nat.le_refl _) _⟩
end Go.Proofs.YthieinfonomeeaaGreatDoor
namespace Go.Proofs.YthieinfonomeeaaGreatDoor
open Go.RowKit Doc Tit Inl Blk
set_option linter.unusedVariables false
abbrev RC (B : Nat) (w : World) (v : Value) (c : List Cell) : Prop := rclS.own 132 FF B w v c
theorem RC.keep {B : Nat} {w w' : World} {v : Value} {c : List Cell} (h : RC B w v c) (hk : ∀ k, v.ownBlock = some k → w'.heap[k]? = w.heap[k]?) : RC B w' v c := by
 obtain ⟨xs, h1, h2⟩ := h
 exact ⟨xs, own_on h1 hk, h2⟩
structure RT (B : Nat) (w : World) (kv nv : Value) (T : Tab) : Prop where
 kids : ∃ xs, w.ownsRow B 44 blsS.sz kv (blsS.len (rowsB T.rows)) xs ∧ blsS.enc (fun k => Shp.kind FF B kv k ∧ nv.ownBlock ≠ some k) w (rowsB T.rows) xs
 now : RC B w nv T.row
 d : Dj nv kv
theorem RT.own {B : Nat} {w : World} {kv nv : Value} {T : Tab} (h : RT B w kv nv T) : blsS.own 44 FF B w kv (rowsB T.rows) := by
 obtain ⟨xs, h1, h2⟩ := h.kids
 exact ⟨xs, h1, blsS.on (Kept.mono fun k hk _ => hk.1) h2⟩
theorem RT.of_own {B : Nat} {w : World} {kv : Value} {R : List (List Cell)} (h : blsS.own 44 FF B w kv (rowsB R)) : RT B w kv (.slice none 0 0) ⟨R, []⟩ := by
 obtain ⟨xs, h1, h2⟩ := h
 exact ⟨⟨xs, h1, blsS.on (Kept.mono fun k hk _ => ⟨hk, fun e => by cases e⟩) h2⟩, Shp.own.nil, fun k h => by cases h⟩
theorem RT.start {B : Nat} {w : World} : RT B w (.slice none 0 0) (.slice none 0 0) ⟨[], []⟩ := RT.of_own Shp.own.nil
theorem RT.below {B : Nat} {w w' : World} {kv nv : Value} {T : Tab} (h : RT B w kv nv T) (hb : Below w.heap.size w w') : RT B w' kv nv T := by
 obtain ⟨xs, h1, h2⟩ := h.kids
 exact ⟨⟨xs, own_on h1 fun k hk => hb.block k (h1.lt k hk).2, blsS.on (Kept.below hb) h2⟩, h.now.below hb, h.d⟩
theorem RT.app {B : Nat} {w w' : World} {kv nv v' : Value} {T : Tab} {new : List Cell} (h : RT B w kv nv T) (hO : RC B w' v' (T.row ++ new)) (hk : Kept (Shp.kind FF B nv) (Shp.kind FF B v') w w') : RT B w' kv v' ⟨T.rows, T.row ++ new⟩ := by
 have h3 := kept_other h.own.lt h.d hk
 obtain ⟨xs, h1, h2⟩ := h.kids
 refine ⟨⟨xs, own_on h1 h3.1, blsS.on (fun k hq hl => ?_) h2⟩, hO, h3.2⟩
 have h4 := hk k ⟨hq.1.1, hq.2⟩ hl
 exact ⟨⟨hq.1, h4.1.2⟩, h4.2⟩
theorem RT.put {B : Nat} {w : World} {kv nv : Value} {T : Tab} (h : RT B w kv nv T) {g : Nat} (hg : g < B) (i : Nat) (u : Value) : RT B (w.setCell ⟨g, i, none⟩ u) kv nv T := by
 obtain ⟨xs, h1, h2⟩ := h.kids
 refine ⟨⟨xs, own_on h1 fun k hk => Below.heap_setCell _ _ _ _ (show k ≠ g by have := (h1.lt k hk).1; omega), blsS.on (Kept.put (fun k hq => by
  rcases hq.1.1 with h | h
  ·exact h.elim
  ·omega) i u) h2⟩, h.now.keep fun k hk => Below.heap_setCell _ _ _ _ (show k ≠ g by have := (h.now.lt k hk).1; omega), h.d⟩
theorem RT.more {B : Nat} {w : World} {kv nv : Value} {T : Tab} (h : RT B w kv nv T) {c : List Cell} {k : Nat} {t : Line} (hr : T.row = c ++ [(k, t)]) :
  ∃ g cap, nv = .slice (some ⟨g, 0, none⟩) (c.length + 1) cap ∧ B ≤ g ∧ g < w.heap.size ∧ w.cell? ⟨g, c.length * 2 + 1, none⟩ = some (.string ⟨t.toArray⟩) ∧ w.frozen? ⟨g, c.length * 2 + 1, none⟩ = false ∧
   ∀ l, RT B (w.setCell ⟨g, c.length * 2 + 1, none⟩ (.string ⟨(t ++ [10] ++ l).toArray⟩)) kv nv ⟨T.rows, c ++ [(k, t ++ [10] ++ l)]⟩ := by
 obtain ⟨xs, h1, h2⟩ := h.now
 have h2 : xs = ccs T.row := h2
 subst h2
 rw [hr] at h1
 have hl : rclS.len (c ++ [(k, t)]) = c.length + 1 := by show (c ++ [(k, t)]).length = _; simp
 rw [hl] at h1
 obtain ⟨g, cap, rfl, hg, hB, hlt, hc, hf⟩ := own_block h1 (Nat.succ_pos _)
 have hcl := ccs_len c
 refine ⟨g, cap, rfl, hB, hlt, hc _ _ ?_, hf _, fun l => ?_⟩
 ·rw [ccs_app, ← hcl, List.getElem?_append_right (by omega), show (ccs c).length + 1 - (ccs c).length = 1 by omega]
  rfl
 ·have hs := own_set h1 hg (c.length * 2 + 1) (.string ⟨(t ++ [10] ++ l).toArray⟩) (by show _ < (c.length + 1) * 2; omega)
  obtain ⟨ys, k1, k2⟩ := h.kids
  refine ⟨⟨ys, own_on k1 fun k hk => Below.heap_setCell _ _ _ _ (show k ≠ g by rintro rfl; exact h.d k rfl hk), blsS.on (Kept.put (fun k hq => by
   rintro rfl
   exact hq.2 rfl) _ _) k2⟩, ?_, h.d⟩
  refine ⟨_, ?_, rfl⟩
  have hl2 : rclS.len (c ++ [(k, t ++ [10] ++ l)]) = c.length + 1 := by show (c ++ [(k, t ++ [10] ++ l)]).length = _; simp
  show World.ownsRow _ _ _ _ _ (rclS.len (c ++ [(k, t ++ [10] ++ l)])) _
  rw [hl2]
  have e : (ccs (c ++ [(k, t)])).set (c.length * 2 + 1) (.string ⟨(t ++ [10] ++ l).toArray⟩) = ccs (c ++ [(k, t ++ [10] ++ l)]) := by
   rw [ccs_app, ccs_app, ← hcl, List.set_append_right _ _ (by omega), show (ccs c).length + 1 - (ccs c).length = 1 by omega]
   rfl
  rw [← e]
  exact hs
theorem RT.csl {B : Nat} {w : World} {kv nv : Value} {T : Tab} (h : RT B w kv nv T) : ∃ p c, nv = .slice p T.row.length c ∧ CSL w p c T.row := by
 obtain ⟨p, c, e⟩ := h.now.form
 have e : nv = .slice p T.row.length c := e
 subst e
 exact ⟨p, c, rfl, CSL.of_sl h.now.sl⟩
def rowOne (c : List Cell) : Bls := .cons 8 0 ⟨#[]⟩ .nil (cellsB c) .nil
theorem rows_snoc (R : List (List Cell)) (c : List Cell) (h : c ≠ []) : rowsB (R ++ [c]) = (rowsB R).app (rowOne c) := by
 rw [rowsB_app, rowsB, if_neg h]; rfl
theorem rows_none (R : List (List Cell)) : rowsB (R ++ [[]]) = rowsB R := by
 rw [rowsB_app, rowsB, if_pos rfl, rowsB, Bls.app_nil]
theorem src_rowOne {q : Nat → Prop} {w : World} {v : Value} {c : List Cell} {ty : TypeId} (hk : blsS.sl q w v (cellsB c)) :
  blsS.src q (w.alloc (.cells #[.int .i64 8, .int .i64 0, .string ⟨#[]⟩, .slice none 0 0, v] ty)) (.slice (some ⟨w.heap.size, 0, none⟩) 1 1) (rowOne c) := src_bls Sl.empty hk
end Go.Proofs.YthieinfonomeeaaGreatDoor
namespace Go.Proofs.YthieinfonomeeaaGreatDoor
open Go.RowKit Doc Tit Inl Blk
set_option linter.unusedVariables false
attribute [local go_sem ↓] Go.wp_at_zero Go.wp_at_succ
theorem first_of {s : ByteArray} {a : UInt8} (h : Lib.hasPrefix s.data.toList [a] = true) : ∃ r, s.data.toList = a :: r := by
 cases hl : s.data.toList with
 | nil => rw [hl] at h; cases h
 | cons x r =>
   rw [hl, hp_cons, Bool.and_eq_true] at h
   have : a = x := by simpa using h.1
   exact ⟨r, by rw [this]⟩
abbrev ZB : Array Value := #[.int .i64 0, .int .i64 0, .string ⟨#[]⟩, .slice none 0 0, .slice none 0 0]
set_option maxRecDepth 20000 in
set_option maxHeartbeats 4000000 in
theorem rtable_any (l : List ByteArray) (p : Option Addr) (c : Nat) (w : World) (ht : Blk.tot (bl l) ≤ 10000000) (hv : SL w p c l) :
  Calls Tryz.prog 76 #[.slice p l.length c] w fun e w' => ∃ p' c', e = .returned (.agg #[.int .i64 7, .int .i64 0, .string ⟨#[]⟩, .slice none 0 0, .slice p' (rowsB (tabOf (bl l))).len c']) ∧
   blsS.sl (fun k => w.heap.size ≤ k) w' (.slice p' (rowsB (tabOf (bl l))).len c') (rowsB (tabOf (bl l))) ∧ Below w.heap.size w w' := by
 have hnc := hv.1
 have hsh : Short l := short_tot (by omega)
 have hlen := Blk.len_tot (bl l)
 rw [bl_length] at hlen
 have hin : ∀ j, j < l.length → ∃ s : ByteArray, l[j]? = some s ∧ s.size ≤ 100000000 ∧ ∃ b o, p = some ⟨b, o, none⟩ ∧ b < w.heap.size ∧ w.cell? ⟨b, o + j, none⟩ = some (.string s) := by
  intro j hj
  obtain ⟨s, hs⟩ : ∃ s, l[j]? = some s := ⟨_, List.getElem?_eq_getElem hj⟩
  rcases hv.2.2 with h | ⟨b, o, h2, h3, h4⟩
  ·rw [h] at hj; cases hj
  ·exact ⟨s, hs, hsh s (List.mem_of_getElem? hs), b, o, h2, h3, h4 j s hs⟩
 have htb : ∀ j, TB 10000000 (((bl l).take j).foldl tabStep ⟨[], []⟩) := fun j => by
  obtain ⟨h1, h2, h3⟩ := tb_all ((bl l).take j)
  have h4 := Blk.tot_take j (bl l)
  exact ⟨by omega, fun c hc => by have := h2 c hc; omega, by omega⟩
 have hst : ∀ j s, l[j]? = some s → ((bl l).take (j + 1)).foldl tabStep ⟨[], []⟩ = tabStep (((bl l).take j).foldl tabStep ⟨[], []⟩) s.data.toList := fun j s hs => by
  have h1 : (bl l)[j]? = some s.data.toList := by simp [bl, hs]
  rw [List.take_add_one, h1, List.foldl_append]
  rfl
 have hfin : ((bl l).take l.length).foldl tabStep ⟨[], []⟩ = (bl l).foldl tabStep ⟨[], []⟩ := by rw [List.take_of_length_le (by rw [bl_length]; exact Nat.le_refl _)]
 obtain ⟨FT, hFT⟩ : ∃ FT : Nat → Tab, FT = fun j => ((bl l).take j).foldl tabStep ⟨[], []⟩ := ⟨_, rfl⟩
 have hF0 : FT 0 = ⟨[], []⟩ := by rw [hFT]; simp
 have hFF : ∀ j, ((bl l).take j).foldl tabStep ⟨[], []⟩ = FT j := fun j => by rw [hFT]
 have hall : tabOf (bl l) = (FT l.length).rows ++ [(FT l.length).row] := by
  rw [← hFF, hfin]; rfl
 rw [hall]
 obtain ⟨AA, hAA⟩ : ∃ AA, AA = (FT l.length).rows ++ [(FT l.length).row] := ⟨_, rfl⟩
 rw [← hAA]
 simp only [hFF] at htb hst
 obtain ⟨n, hnn⟩ : ∃ n, n = l.length := ⟨_, rfl⟩
 rw [← hnn] at hlen hnc hin hAA ⊢
 have hrow : ∀ j (pn : Option Addr) (cn : Nat) (W : World), CSL W pn cn (FT j).row → Calls Tryz.prog 107 #[.slice pn (FT j).row.length cn] W fun e w' => ∃ kp kc, e = .returned (.tuple #[.agg #[.int .i64 8, .int .i64 0, .string ⟨#[]⟩, .slice none 0 0, .slice kp (cellsB (FT j).row).len kc], .bool (decide (0 < (FT j).row.length))]) ∧
   blsS.sl (fun k => W.heap.size ≤ k) w' (.slice kp (cellsB (FT j).row).len kc) (cellsB (FT j).row) ∧ Below W.heap.size W w' := fun j pn cn W hc => rrow_any _ pn cn W (by have := rt_len (FT j).row; have := (htb j).1; omega) (fun x hx => by have := rt_mem hx; have := (htb j).1; omega) hc
 have HAA := Lib.hid hAA
 have hn1 : n ≤ 10000000 := by omega
 have HIN := Lib.hid hin
 have HTB := Lib.hid htb
 have HST := Lib.hid hst
 have HROW := Lib.hid hrow
 have K0 := Known.made w 44 ZB
 have K1 := K0.alloc (.cells #[.int .i64 7, .int .i64 0, .string ⟨#[]⟩, .slice none 0 0, .slice none 0 0] 44)
 have K2 := Known.made (w.alloc (.cells ZB 44)) 44 #[.int .i64 7, .int .i64 0, .string ⟨#[]⟩, .slice none 0 0, .slice none 0 0]
 rw [World.size_alloc] at K2
 have HK1 := Lib.hid K1
 have HK2 := Lib.hid K2
 clear hin hnn hAA hv hFT hFF hfin K0 K1 K2 hsh htb hst hall ht hlen hrow
 go_enter Tryz.func76, Tryz.ntmps76
 go_wp2_with fail
 refine name_wb ?_
 intro W0 hW0
 have hk1 : Known W0 w.heap.size 44 ZB := by rw [hW0]; exact HK1.out
 have hk2 : Known W0 (w.heap.size + 1) 44 #[.int .i64 7, .int .i64 0, .string ⟨#[]⟩, .slice none 0 0, .slice none 0 0] := by rw [hW0]; exact HK2.out
 have hb0 : Below w.heap.size w W0 := by rw [hW0]; exact below_then (below_new0 _ _) (below_new0 _ _)
 have hz0 : w.heap.size + 2 ≤ W0.heap.size := by rw [hW0]; simp
 have H1 := Lib.hid hk1
 have H2 := Lib.hid hk2
 have HB0 := Lib.hid hb0
 clear hW0 HK1 HK2 hk1 hk2 hb0
 go_loopg [4, 5] (n + 1) (fun g s4 s5 wr => ∃ (j : Nat) (kv : Value), s5 = .int .i64 j ∧ j ≤ n ∧ n < j + g ∧ Known wr (w.heap.size + 1) 44 #[.int .i64 7, .int .i64 0, .string ⟨#[]⟩, .slice none 0 0, kv] ∧ Known wr w.heap.size 44 ZB ∧
  RT (w.heap.size + 2) wr kv s4 (FT j) ∧ w.heap.size + 2 ≤ wr.heap.size ∧ Below w.heap.size w wr)
 case atStart => exact ⟨0, _, rfl, by omega, by omega, H2.out, H1.out, by rw [hF0]; exact RT.start, by omega, HB0.out⟩
 case round =>
  obtain ⟨j, kv, rfl, hj, hg, KB, KR, hT, hz, hb⟩ := hrel
  by_cases hjn : j < n
  ·obtain ⟨s, hs1, hs2, b, o, rfl, hbl, hs3⟩ := HIN.out j hjn
   have g1 : decide (j < n) = true := decide_eq_true hjn
   have d1 := (hb.cell (p := ⟨b, o + j, none⟩) hbl).trans hs3
   have hbw : b < wr.heap.size := by omega
   have hstp := HST.out j s hs1
   obtain ⟨htb1, -, htb3⟩ := HTB.out j
   have hP2 : ∀ W, Calls Tryz.prog 73 #[.string s, .int .i64 0, .string ⟨#[124, 45]⟩] W fun e w' => e = .returned (.bool (Lib.hasPrefix s.data.toList [124, 45])) ∧ W = w' := fun W => at_any s ⟨#[124, 45]⟩ 0 W (by omega) (by decide) (Nat.zero_le _)
   have hP1 : ∀ W, Calls Tryz.prog 73 #[.string s, .int .i64 0, .string ⟨#[124]⟩] W fun e w' => e = .returned (.bool (Lib.hasPrefix s.data.toList [124])) ∧ W = w' := fun W => at_any s ⟨#[124]⟩ 0 W (by omega) (by decide) (Nat.zero_le _)
   have hP3 : ∀ W, Calls Tryz.prog 73 #[.string s, .int .i64 0, .string ⟨#[33]⟩] W fun e w' => e = .returned (.bool (Lib.hasPrefix s.data.toList [33])) ∧ W = w' := fun W => at_any s ⟨#[33]⟩ 0 W (by omega) (by decide) (Nat.zero_le _)
   have HB := Lib.hid hb
   have HKB := Lib.hid KB
   have HKR := Lib.hid KR
   have hRC : (FT j).row.length ≤ 10000000 := Nat.le_trans (rt_len _) htb1
   have hKL : (rowsB (FT j).rows).len ≤ 10000000 := Nat.le_trans (rowsB_len _) htb3
   cases h2 : Lib.hasPrefix s.data.toList [124, 45] with
   | true =>
     simp only [h2] at hP2
     have e : tabStep (FT j) s.data.toList = ⟨(FT j).rows ++ [(FT j).row], []⟩ := by unfold tabStep; rw [if_pos h2]
     rw [e] at hstp
     obtain ⟨pn, cn, rfl, hcsl⟩ := hT.csl
     have hrw := HROW.out j pn cn wr hcsl
     have HP2 := Lib.hid hP2
     have HSTP := Lib.hid hstp
     have HT0 := Lib.hid hT
     have HRW := Lib.hid hrw
     clear hP1 hP2 hP3 hstp e hT hs1 hs3 hb h2 htb1 htb3 hcsl hrw KB KR
     go_wp2_with fail
     refine (HP2.out _).mono ?_
     rintro e w2 ⟨rfl, rfl⟩
     go_wp2_with fail
     refine HRW.out.mono ?_
     rintro e w3 ⟨kp, kc, rfl, hsl, hb3⟩
     have hzz3 := hb3.size
     by_cases hre : (FT j).row = []
     ·have g2 : decide (0 < (FT j).row.length) = false := by rw [hre]; rfl
      have hRT : RT (w.heap.size + 2) (w3.alloc (.cells #[.int .i64 8, .int .i64 0, .string ⟨#[]⟩, .slice none 0 0, .slice kp (cellsB (FT j).row).len kc] 44)) kv (.slice none 0 0) (FT (j + 1)) := by
       have h5 := (HT0.out.below (below_then hb3 (below_new0 w3 (.cells #[.int .i64 8, .int .i64 0, .string ⟨#[]⟩, .slice none 0 0, .slice kp (cellsB (FT j).row).len kc] 44)))).own
       rw [HSTP.out, hre]
       exact RT.of_own (by rw [rows_none]; rw [hre] at h5; exact h5)
      have hbA := below_then hb3 (below_new0 w3 (.cells #[.int .i64 8, .int .i64 0, .string ⟨#[]⟩, .slice none 0 0, .slice kp (cellsB (FT j).row).len kc] 44))
      have HBA := Lib.hid hbA
      have HRT := Lib.hid hRT
      have HRE := Lib.hid hre
      have hzz := hbA.size
      clear hRT hbA hre hsl hb3
      go_wp2_with fail
      go_roundg (n - j)
      case measure => omega
      case rel => exact ⟨j + 1, kv, by go_num, by omega, by omega, HKB.out.below (HBA.out.mono hz) (by omega), HKR.out.below (HBA.out.mono hz) (by omega), HRT.out, by omega, below_then HB.out HBA.out⟩
     ·have hrl : 0 < (FT j).row.length := by
       rcases Nat.eq_zero_or_pos (FT j).row.length with h | h
       ·exact absurd (List.length_eq_zero_iff.1 h) hre
       ·exact h
      have g2 : decide (0 < (FT j).row.length) = true := decide_eq_true hrl
      have hlt := HT0.out.own.lt
      have K7 := Known.made w3 44 #[.int .i64 8, .int .i64 0, .string ⟨#[]⟩, .slice none 0 0, .slice kp (cellsB (FT j).row).len kc]
      obtain ⟨y0, y1, y2, y3, y4⟩ := K7.five
      have hl7 := K7.lt
      have hbA : Below wr.heap.size wr (w3.alloc (.cells #[.int .i64 8, .int .i64 0, .string ⟨#[]⟩, .slice none 0 0, .slice kp (cellsB (FT j).row).len kc] 44)) := below_then hb3 (below_new0 _ _)
      have hbA2 := below_then hbA (below_new0 _ (.cells #[.int .i64 8, .int .i64 0, .string ⟨#[]⟩, .slice none 0 0, .slice kp (cellsB (FT j).row).len kc] 44))
      have KB3 := HKB.out.below (hbA.mono hz) (by omega)
      have x4 := KB3.cell 4
      have hl4 := KB3.lt
      have hoA := (HT0.out.below hbA2).own
      have hsr : blsS.src (Shp.kind FF (w.heap.size + 2) kv) ((w3.alloc (.cells #[.int .i64 8, .int .i64 0, .string ⟨#[]⟩, .slice none 0 0, .slice kp (cellsB (FT j).row).len kc] 44)).alloc (.cells #[.int .i64 8, .int .i64 0, .string ⟨#[]⟩, .slice none 0 0, .slice kp (cellsB (FT j).row).len kc] 44)) (.slice (some ⟨w3.heap.size + 1, 0, none⟩) 1 1) (rowOne (FT j).row) := by
       have h6 := src_rowOne (q := Shp.kind FF (w.heap.size + 2) kv) (w := w3.alloc (.cells #[.int .i64 8, .int .i64 0, .string ⟨#[]⟩, .slice none 0 0, .slice kp (cellsB (FT j).row).len kc] 44)) (c := (FT j).row) (ty := 44) (blsS.sl_on (blsS.sl_on hsl (Kept.mono fun q hq _ => ⟨.inr (by omega), fun e => by have := (hlt q e).2; omega⟩)) (Kept.alloc _))
       rw [World.size_alloc] at h6
       exact h6
      have hzW : w.heap.size + 2 ≤ ((w3.alloc (.cells #[.int .i64 8, .int .i64 0, .string ⟨#[]⟩, .slice none 0 0, .slice kp (cellsB (FT j).row).len kc] 44)).alloc (.cells #[.int .i64 8, .int .i64 0, .string ⟨#[]⟩, .slice none 0 0, .slice kp (cellsB (FT j).row).len kc] 44)).heap.size := by rw [World.size_alloc, World.size_alloc]; omega
      have HSR := Lib.hid hsr
      have HOA := Lib.hid hoA
      have HBA := Lib.hid hbA2
      have HRE := Lib.hid hre
      have hkl : blsS.len (rowsB (FT j).rows) ≤ 10000000 := hKL
      clear hsl hb3 hsr hoA hbA hbA2 K7 KB3 hlt hre
      go_wp2_with (at_builtin; go_must (refine append_shp blsS tyB _ rfl _ _ rfl HOA.out rfl HSR.out rfl (by show (blsS.len (rowsB (FT j).rows) + 1) * 81 ≤ _; omega) hzW ?_); intro v' w5 O5 hgrow hbel hkd; have hb5 : Below (w.heap.size + 2) wr w5 := hbel _ (HBA.out.mono hz); have f5 := (HKB.out.below hb5 (by omega)).free 4; have x5 := (HKB.out.below hb5 (by omega)).cell 4; have hl5 := (HKB.out.below hb5 (by omega)).lt; obtain ⟨pk5, ck5, hv5⟩ := O5.form; subst hv5)
      have K5 := (HKB.out.below hb5 (by omega)).put 4 (.slice pk5 (blsS.len (blsS.app (rowsB (FT j).rows) (rowOne (FT j).row))) ck5)
      have K6 := (HKR.out.below hb5 (by omega)).far (p := ⟨w.heap.size + 1, 4, none⟩) (by show w.heap.size ≠ w.heap.size + 1; omega) (.slice pk5 (blsS.len (blsS.app (rowsB (FT j).rows) (rowOne (FT j).row))) ck5)
      have hb6 : Below w.heap.size w (w5.setCell ⟨w.heap.size + 1, 4, none⟩ (.slice pk5 (blsS.len (blsS.app (rowsB (FT j).rows) (rowOne (FT j).row))) ck5)) := (HB.out.trans (hb5.mono (by omega))).setCell (p := ⟨w.heap.size + 1, 4, none⟩) (by show w.heap.size ≤ w.heap.size + 1; omega) _
      have hz6 : w.heap.size + 2 ≤ (w5.setCell ⟨w.heap.size + 1, 4, none⟩ (.slice pk5 (blsS.len (blsS.app (rowsB (FT j).rows) (rowOne (FT j).row))) ck5)).heap.size := by rw [World.size_setCell]; have := hb5.size; omega
      have hRT : RT (w.heap.size + 2) (w5.setCell ⟨w.heap.size + 1, 4, none⟩ (.slice pk5 (blsS.len (blsS.app (rowsB (FT j).rows) (rowOne (FT j).row))) ck5)) (.slice pk5 (blsS.len (blsS.app (rowsB (FT j).rows) (rowOne (FT j).row))) ck5) (.slice none 0 0) ⟨(FT j).rows ++ [(FT j).row], []⟩ :=
       RT.put (RT.of_own (by rw [rows_snoc _ _ HRE.out]; exact O5)) (by omega) _ _
      have H5 := Lib.hid K5
      have H6 := Lib.hid K6
      have HRT := Lib.hid hRT
      have HB6 := Lib.hid hb6
      clear K5 K6 hRT O5 hgrow hbel hkd hb6
      go_wp2_with fail
      go_roundg (n - j)
      case measure => omega
      case rel => exact ⟨j + 1, _, by go_num, by omega, by omega, H5.out, H6.out, by rw [HSTP.out]; exact HRT.out, hz6, HB6.out⟩
   | false =>
     simp only [h2] at hP2
     cases h1 : Lib.hasPrefix s.data.toList [124] with
     | true =>
       simp only [h1] at hP1
       have e : tabStep (FT j) s.data.toList = ⟨(FT j).rows, (FT j).row ++ (spl2 124 (s.data.toList.drop 1)).map (fun t => (0, t))⟩ := by unfold tabStep; rw [if_neg (by rw [h2]; decide), if_pos h1]
       rw [e] at hstp
       have hsz1 := hp_size h1
       obtain ⟨rr, hlr⟩ := first_of h1
       obtain ⟨h0, hx0⟩ := first_byte hlr
       have hx33 : ((((124 : UInt8).toNat : Nat) : Int) == 33) = false := by decide
       have hdr : (s.extract 1 s.size).data.toList = s.data.toList.drop 1 := Lib.extract_to_end _ _
       rw [← hdr] at hstp
       obtain ⟨T1, hex⟩ : ∃ T1, s.extract 1 s.size = T1 := ⟨_, rfl⟩
       have hT1s : T1.size ≤ 100000000 := by rw [← hex, ByteArray.size_extract]; omega
       rw [hex] at hstp
       have hDV : ∀ W, Calls Tryz.prog 108 #[.string T1, .string ⟨#[124, 124]⟩] W fun e w' => ∃ (L : List ByteArray) (p : Option Addr) (c : Nat), e = .returned (.slice p L.length c) ∧
         bl L = spl2 124 T1.data.toList ∧ txS.sl (fun k => W.heap.size ≤ k) w' (.slice p L.length c) L ∧ Below W.heap.size W w' := fun W => (rdivide_any T1 ⟨#[124, 124]⟩ W hT1s (by decide) (by decide)).mono (by
        rintro e w' ⟨L, p, c, h1, h2, h3, h4⟩
        exact ⟨L, p, c, h1, by rw [h2]; exact div_pairs 124 (by decide) T1, h3, h4⟩)
       have hLn : (spl2 124 T1.data.toList).length ≤ 100000001 := by
        have h5 := Blk.spl2_tot 124 T1.data.toList
        have h6 := Blk.len_tot (spl2 124 T1.data.toList)
        have h8 : T1.data.toList.length = T1.size := by simp
        omega
       obtain ⟨LL, hLL⟩ : ∃ LL, spl2 124 T1.data.toList = LL := ⟨_, rfl⟩
       rw [hLL] at hLn hstp
       simp only [hLL] at hDV
       have HP2 := Lib.hid hP2
       have HP1 := Lib.hid hP1
       have HP3 := Lib.hid hP3
       have HDV := Lib.hid hDV
       have HSTP := Lib.hid hstp
       have HT0 := Lib.hid hT
       have hlt4 := hT.now.lt
       have HLT4 := Lib.hid hlt4
       clear hlt4 hP1 hP2 hP3 hstp e hT hs1 hs3 hb h2 htb1 htb3 hDV hLL hdr h1 hlr KB KR
       go_wp2_with fail
       refine (HP2.out _).mono ?_
       rintro e w2 ⟨rfl, rfl⟩
       go_wp2_with fail
       refine (HP1.out _).mono ?_
       rintro e w2 ⟨rfl, rfl⟩
       go_wp2_with fail
       refine (HDV.out _).mono ?_
       rintro e w3 ⟨L, p', c', rfl, hbL, hsl, hb3⟩
       have hLl : L.length ≤ 100000001 := by rw [← hbL, bl_length] at hLn; exact hLn
       have hz3 := hb3.size
       have hsl0 : txS.sl (fun k => wr.heap.size ≤ k ∧ u4.ownBlock ≠ some k) w3 (.slice p' L.length c') L := txS.sl_on hsl (Kept.mono fun k hk _ => ⟨hk, fun e => by have := (HLT4.out k e).2; omega⟩)
       have hT3 := HT0.out.below hb3
       have hkb3 := HKB.out.below (hb3.mono hz) (by omega)
       have hkr3 := HKR.out.below (hb3.mono hz) (by omega)
       have hb33 := below_then HB.out hb3
       have HT3 := Lib.hid hT3
       have HSL := Lib.hid hsl0
       have HB3 := Lib.hid hb33
       have HKB3 := Lib.hid hkb3
       have HKR3 := Lib.hid hkr3
       have HBL := Lib.hid hbL
       obtain ⟨m, hm⟩ : ∃ m, m = L.length := ⟨_, rfl⟩
       rw [← hm] at hLl ⊢
       have HM := Lib.hid hm
       have hcapm : m ≤ c' := by rw [hm]; exact (SL.of_sl hsl).1
       obtain ⟨wo, hwo⟩ : ∃ wo, wo = wr := ⟨_, rfl⟩
       subst hwo
       obtain ⟨gO, hgO⟩ : ∃ gO, gO = gk := ⟨_, rfl⟩
       subst hgO
       clear hsl hsl0 hb3 hb33 hT3 hkb3 hkr3 hbL hm HKB HKR HB HT0 HLT4
       go_wp2_with fail
       go_loopg [4, 12] (m + 1) (fun g s4 s12 wq => ∃ (q : Nat), s12 = .int .i64 q ∧ q ≤ m ∧ m < q + g ∧ Known wq (w.heap.size + 1) 44 #[.int .i64 7, .int .i64 0, .string ⟨#[]⟩, .slice none 0 0, kv] ∧ Known wq w.heap.size 44 ZB ∧
        RT (w.heap.size + 2) wq kv s4 ⟨(FT j).rows, (FT j).row ++ (bl (L.take q)).map fun t => (0, t)⟩ ∧ txS.sl (fun k => wo.heap.size ≤ k ∧ s4.ownBlock ≠ some k) wq (.slice p' m c') L ∧ w.heap.size + 2 ≤ wq.heap.size ∧ Below w.heap.size w wq)
       case atStart =>
        refine ⟨0, rfl, by omega, by omega, HKB3.out, HKR3.out, ?_, by have := HSL.out; rwa [← HM.out] at this, by omega, HB3.out⟩
        have e : (⟨(FT j).rows, (FT j).row ++ (bl (L.take 0)).map fun t => (0, t)⟩ : Tab) = FT j := by simp [bl]
        rw [e]; exact HT3.out
       case round =>
        obtain ⟨q, rfl, hq, hgq, KB, KR, hT, hsl, hzq, hb⟩ := hrel
        by_cases hqm : q < m
        ·obtain ⟨y, hy⟩ : ∃ y, L[q]? = some y := ⟨_, List.getElem?_eq_getElem (by rw [← HM.out]; exact hqm)⟩
         have hsl1 := hsl
         rw [HM.out] at hsl1
         obtain ⟨b', o', rfl, hbl', hc'⟩ := (SL.of_sl hsl1).all (by rw [← HM.out]; omega)
         have d2 := hc' q y hy
         have q1 : decide (q < m) = true := decide_eq_true hqm
         have hyy : (⟨y.data.toList.toArray⟩ : ByteArray) = y := bytes_ext rfl
         have hnew : (⟨(FT j).rows, (FT j).row ++ (bl (L.take (q + 1))).map fun t => (0, t)⟩ : Tab) = ⟨(FT j).rows, ((FT j).row ++ (bl (L.take q)).map fun t => (0, t)) ++ [(0, y.data.toList)]⟩ := by
          rw [List.take_add_one, hy]; simp [bl]
         have hln : rclS.len ((FT j).row ++ (bl (L.take q)).map fun t => (0, t)) ≤ 200000000 := by
          show ((FT j).row ++ (bl (L.take q)).map fun t => (0, t)).length ≤ _
          rw [List.length_append, List.length_map, bl_length, List.length_take]; omega
         have hsr : rclS.src (Shp.kind FF (w.heap.size + 2) u4) (wr.alloc (.cells #[.int .i64 0, .string y] 132)) (.slice (some ⟨wr.heap.size, 0, none⟩) 1 1) [(0, y.data.toList)] := by
          have h6 := src_rc (q := Shp.kind FF (w.heap.size + 2) u4) (w := wr) (k := 0) (t := y.data.toList) (ty := 132)
          rw [hyy] at h6
          exact h6
         have hTA := hT.below (below_new0 wr (.cells #[.int .i64 0, .string y] 132))
         have hslA := txS.sl_on hsl (Kept.alloc (.cells #[.int .i64 0, .string y] 132))
         have hzW : w.heap.size + 2 ≤ (wr.alloc (.cells #[.int .i64 0, .string y] 132)).heap.size := by rw [World.size_alloc]; omega
         have HSR := Lib.hid hsr
         have HTA := Lib.hid hTA
         have HSLA := Lib.hid hslA
         have HNEW := Lib.hid hnew
         have HKBq := Lib.hid KB
         have HKRq := Lib.hid KR
         have HBq := Lib.hid hb
         have HLN := Lib.hid hln
         clear hsr hTA hsl hsl1 hslA hnew KB KR hb hT hc' hy hyy hln
         go_wp2_with (at_builtin; go_must (refine append_shp rclS tyRC _ rfl _ _ rfl HTA.out.now rfl HSR.out rfl (by have := HLN.out; show (rclS.len ((FT j).row ++ (bl (L.take q)).map fun t => (0, t)) + 1) * 25 ≤ _; omega) hzW ?_); intro v' w5 O5 hgrow hbel hkd)
         have hb5 : Below (w.heap.size + 2) wr w5 := hbel _ ((below_new0 wr _).mono hzq)
         have hT5 := HTA.out.app O5 hkd
         have hs5 : txS.sl (fun k => wo.heap.size ≤ k ∧ v'.ownBlock ≠ some k) w5 (.slice (some ⟨b', o', none⟩) m c') L := txS.sl_on HSLA.out fun k hk hl => by
          have h7 := hkd k ⟨.inr (by have := hk.1; omega), hk.2⟩ hl
          exact ⟨⟨hk.1, h7.1.2⟩, h7.2⟩
         have HT5 := Lib.hid hT5
         have HS5 := Lib.hid hs5
         have HB5 := Lib.hid hb5
         have hz5 := hb5.size
         clear O5 hgrow hbel hkd hT5 hs5 hb5
         go_wp2_with fail
         go_roundg (m - q)
         case measure => omega
         case rel => exact ⟨q + 1, by go_num, by omega, by omega, HKBq.out.below HB5.out (by omega), HKRq.out.below HB5.out (by omega), by rw [HNEW.out]; exact HT5.out, HS5.out, by omega, HBq.out.trans (HB5.out.mono (by omega))⟩
        ·have hqe : q = m := by omega
         have q1 : decide (q < m) = false := decide_eq_false hqm
         have hTf : RT (w.heap.size + 2) wr kv u4 (FT (j + 1)) := by
          rw [HSTP.out, ← HBL.out]
          rw [hqe, List.take_of_length_le (by rw [HM.out]; exact Nat.le_refl _)] at hT
          exact hT
         have HTF := Lib.hid hTf
         have HKBq := Lib.hid KB
         have HKRq := Lib.hid KR
         have HBq := Lib.hid hb
         clear hTf KB KR hb hT hsl hqe hqm
         go_wp2_with fail
         go_roundg (n - j)
         case measure => omega
         case rel => exact ⟨j + 1, kv, by go_num, by omega, by omega, HKBq.out, HKRq.out, HTF.out, hzq, HBq.out⟩
     | false =>
       simp only [h1] at hP1
       cases h3 : Lib.hasPrefix s.data.toList [33] with
       | true =>
         simp only [h3] at hP3
         have e : tabStep (FT j) s.data.toList = ⟨(FT j).rows, (FT j).row ++ (spl2 33 (s.data.toList.drop 1)).map (fun t => (1, t))⟩ := by unfold tabStep; rw [if_neg (by rw [h2]; decide), if_neg (by rw [h1]; decide), if_pos h3]
         rw [e] at hstp
         have hsz1 := hp_size h3
         obtain ⟨rr, hlr⟩ := first_of h3
         obtain ⟨h0, hx0⟩ := first_byte hlr
         have hx33 : ((((33 : UInt8).toNat : Nat) : Int) == 33) = true := by decide
         have hdr : (s.extract 1 s.size).data.toList = s.data.toList.drop 1 := Lib.extract_to_end _ _
         rw [← hdr] at hstp
         obtain ⟨T1, hex⟩ : ∃ T1, s.extract 1 s.size = T1 := ⟨_, rfl⟩
         have hT1s : T1.size ≤ 100000000 := by rw [← hex, ByteArray.size_extract]; omega
         rw [hex] at hstp
         have hDV : ∀ W, Calls Tryz.prog 108 #[.string T1, .string ⟨#[33, 33]⟩] W fun e w' => ∃ (L : List ByteArray) (p : Option Addr) (c : Nat), e = .returned (.slice p L.length c) ∧
           bl L = spl2 33 T1.data.toList ∧ txS.sl (fun k => W.heap.size ≤ k) w' (.slice p L.length c) L ∧ Below W.heap.size W w' := fun W => (rdivide_any T1 ⟨#[33, 33]⟩ W hT1s (by decide) (by decide)).mono (by
          rintro e w' ⟨L, p, c, h1, h2, h3, h4⟩
          exact ⟨L, p, c, h1, by rw [h2]; exact div_pairs 33 (by decide) T1, h3, h4⟩)
         have hLn : (spl2 33 T1.data.toList).length ≤ 100000001 := by
          have h5 := Blk.spl2_tot 33 T1.data.toList
          have h6 := Blk.len_tot (spl2 33 T1.data.toList)
          have h8 : T1.data.toList.length = T1.size := by simp
          omega
         obtain ⟨LL, hLL⟩ : ∃ LL, spl2 33 T1.data.toList = LL := ⟨_, rfl⟩
         rw [hLL] at hLn hstp
         simp only [hLL] at hDV
         have HP2 := Lib.hid hP2
         have HP1 := Lib.hid hP1
         have HP3 := Lib.hid hP3
         have HDV := Lib.hid hDV
         have HSTP := Lib.hid hstp
         have HT0 := Lib.hid hT
         have hlt4 := hT.now.lt
         have HLT4 := Lib.hid hlt4
         clear hlt4 hP1 hP2 hP3 hstp e hT hs1 hs3 hb h2 htb1 htb3 hDV hLL hdr h1 hlr KB KR h3
         go_wp2_with fail
         refine (HP2.out _).mono ?_
         rintro e w2 ⟨rfl, rfl⟩
         go_wp2_with fail
         refine (HP1.out _).mono ?_
         rintro e w2 ⟨rfl, rfl⟩
         go_wp2_with fail
         refine (HP3.out _).mono ?_
         rintro e w2 ⟨rfl, rfl⟩
         go_wp2_with fail
         refine (HDV.out _).mono ?_
         rintro e w3 ⟨L, p', c', rfl, hbL, hsl, hb3⟩
         have hLl : L.length ≤ 100000001 := by rw [← hbL, bl_length] at hLn; exact hLn
         have hz3 := hb3.size
         have hsl0 : txS.sl (fun k => wr.heap.size ≤ k ∧ u4.ownBlock ≠ some k) w3 (.slice p' L.length c') L := txS.sl_on hsl (Kept.mono fun k hk _ => ⟨hk, fun e => by have := (HLT4.out k e).2; omega⟩)
         have hT3 := HT0.out.below hb3
         have hkb3 := HKB.out.below (hb3.mono hz) (by omega)
         have hkr3 := HKR.out.below (hb3.mono hz) (by omega)
         have hb33 := below_then HB.out hb3
         have HT3 := Lib.hid hT3
         have HSL := Lib.hid hsl0
         have HB3 := Lib.hid hb33
         have HKB3 := Lib.hid hkb3
         have HKR3 := Lib.hid hkr3
         have HBL := Lib.hid hbL
         obtain ⟨m, hm⟩ : ∃ m, m = L.length := ⟨_, rfl⟩
         rw [← hm] at hLl ⊢
         have HM := Lib.hid hm
         have hcapm : m ≤ c' := by rw [hm]; exact (SL.of_sl hsl).1
         obtain ⟨wo, hwo⟩ : ∃ wo, wo = wr := ⟨_, rfl⟩
         subst hwo
         obtain ⟨gO, hgO⟩ : ∃ gO, gO = gk := ⟨_, rfl⟩
         subst hgO
         clear hsl hsl0 hb3 hb33 hT3 hkb3 hkr3 hbL hm HKB HKR HB HT0 HLT4
         go_wp2_with fail
         go_loopg [4, 12] (m + 1) (fun g s4 s12 wq => ∃ (q : Nat), s12 = .int .i64 q ∧ q ≤ m ∧ m < q + g ∧ Known wq (w.heap.size + 1) 44 #[.int .i64 7, .int .i64 0, .string ⟨#[]⟩, .slice none 0 0, kv] ∧ Known wq w.heap.size 44 ZB ∧
          RT (w.heap.size + 2) wq kv s4 ⟨(FT j).rows, (FT j).row ++ (bl (L.take q)).map fun t => (1, t)⟩ ∧ txS.sl (fun k => wo.heap.size ≤ k ∧ s4.ownBlock ≠ some k) wq (.slice p' m c') L ∧ w.heap.size + 2 ≤ wq.heap.size ∧ Below w.heap.size w wq)
         case atStart =>
          refine ⟨0, rfl, by omega, by omega, HKB3.out, HKR3.out, ?_, by have := HSL.out; rwa [← HM.out] at this, by omega, HB3.out⟩
          have e : (⟨(FT j).rows, (FT j).row ++ (bl (L.take 0)).map fun t => (1, t)⟩ : Tab) = FT j := by simp [bl]
          rw [e]; exact HT3.out
         case round =>
          obtain ⟨q, rfl, hq, hgq, KB, KR, hT, hsl, hzq, hb⟩ := hrel
          by_cases hqm : q < m
          ·obtain ⟨y, hy⟩ : ∃ y, L[q]? = some y := ⟨_, List.getElem?_eq_getElem (by rw [← HM.out]; exact hqm)⟩
           have hsl1 := hsl
           rw [HM.out] at hsl1
           obtain ⟨b', o', rfl, hbl', hc'⟩ := (SL.of_sl hsl1).all (by rw [← HM.out]; omega)
           have d2 := hc' q y hy
           have q1 : decide (q < m) = true := decide_eq_true hqm
           have hyy : (⟨y.data.toList.toArray⟩ : ByteArray) = y := bytes_ext rfl
           have hnew : (⟨(FT j).rows, (FT j).row ++ (bl (L.take (q + 1))).map fun t => (1, t)⟩ : Tab) = ⟨(FT j).rows, ((FT j).row ++ (bl (L.take q)).map fun t => (1, t)) ++ [(1, y.data.toList)]⟩ := by
            rw [List.take_add_one, hy]; simp [bl]
           have hln : rclS.len ((FT j).row ++ (bl (L.take q)).map fun t => (1, t)) ≤ 200000000 := by
            show ((FT j).row ++ (bl (L.take q)).map fun t => (1, t)).length ≤ _
            rw [List.length_append, List.length_map, bl_length, List.length_take]; omega
           have hsr : rclS.src (Shp.kind FF (w.heap.size + 2) u4) (wr.alloc (.cells #[.int .i64 1, .string y] 132)) (.slice (some ⟨wr.heap.size, 0, none⟩) 1 1) [(1, y.data.toList)] := by
            have h6 := src_rc (q := Shp.kind FF (w.heap.size + 2) u4) (w := wr) (k := 1) (t := y.data.toList) (ty := 132)
            rw [hyy] at h6
            exact h6
           have hTA := hT.below (below_new0 wr (.cells #[.int .i64 1, .string y] 132))
           have hslA := txS.sl_on hsl (Kept.alloc (.cells #[.int .i64 1, .string y] 132))
           have hzW : w.heap.size + 2 ≤ (wr.alloc (.cells #[.int .i64 1, .string y] 132)).heap.size := by rw [World.size_alloc]; omega
           have HSR := Lib.hid hsr
           have HTA := Lib.hid hTA
           have HSLA := Lib.hid hslA
           have HNEW := Lib.hid hnew
           have HKBq := Lib.hid KB
           have HKRq := Lib.hid KR
           have HBq := Lib.hid hb
           have HLN := Lib.hid hln
           clear hsr hTA hsl hsl1 hslA hnew KB KR hb hT hc' hy hyy hln
           go_wp2_with (at_builtin; go_must (refine append_shp rclS tyRC _ rfl _ _ rfl HTA.out.now rfl HSR.out rfl (by have := HLN.out; show (rclS.len ((FT j).row ++ (bl (L.take q)).map fun t => (1, t)) + 1) * 25 ≤ _; omega) hzW ?_); intro v' w5 O5 hgrow hbel hkd)
           have hb5 : Below (w.heap.size + 2) wr w5 := hbel _ ((below_new0 wr _).mono hzq)
           have hT5 := HTA.out.app O5 hkd
           have hs5 : txS.sl (fun k => wo.heap.size ≤ k ∧ v'.ownBlock ≠ some k) w5 (.slice (some ⟨b', o', none⟩) m c') L := txS.sl_on HSLA.out fun k hk hl => by
            have h7 := hkd k ⟨.inr (by have := hk.1; omega), hk.2⟩ hl
            exact ⟨⟨hk.1, h7.1.2⟩, h7.2⟩
           have HT5 := Lib.hid hT5
           have HS5 := Lib.hid hs5
           have HB5 := Lib.hid hb5
           have hz5 := hb5.size
           clear O5 hgrow hbel hkd hT5 hs5 hb5
           go_wp2_with fail
           go_roundg (m - q)
           case measure => omega
           case rel => exact ⟨q + 1, by go_num, by omega, by omega, HKBq.out.below HB5.out (by omega), HKRq.out.below HB5.out (by omega), by rw [HNEW.out]; exact HT5.out, HS5.out, by omega, HBq.out.trans (HB5.out.mono (by omega))⟩
          ·have hqe : q = m := by omega
           have q1 : decide (q < m) = false := decide_eq_false hqm
           have hTf : RT (w.heap.size + 2) wr kv u4 (FT (j + 1)) := by
            rw [HSTP.out, ← HBL.out]
            rw [hqe, List.take_of_length_le (by rw [HM.out]; exact Nat.le_refl _)] at hT
            exact hT
           have HTF := Lib.hid hTf
           have HKBq := Lib.hid KB
           have HKRq := Lib.hid KR
           have HBq := Lib.hid hb
           clear hTf KB KR hb hT hsl hqe hqm
           go_wp2_with fail
           go_roundg (n - j)
           case measure => omega
           case rel => exact ⟨j + 1, kv, by go_num, by omega, by omega, HKBq.out, HKRq.out, HTF.out, hzq, HBq.out⟩
       | false =>
         simp only [h3] at hP3
         rw [tabStep_more _ _ h2 h1 h3] at hstp
         have HP2 := Lib.hid hP2
         have HP1 := Lib.hid hP1
         have HP3 := Lib.hid hP3
         by_cases hr0 : (FT j).row.length = 0
         ·have hr1 : (FT j).row = [] := List.length_eq_zero_iff.1 hr0
          obtain ⟨pn, cn, h4, -⟩ := hT.csl
          rw [hr0] at h4
          subst h4
          have hT' : RT (w.heap.size + 2) wr kv (.slice pn 0 cn) (FT (j + 1)) := by
           rw [hstp, hr1]
           have e : (⟨(FT j).rows, moreT s.data.toList []⟩ : Tab) = FT j := by
            show (⟨(FT j).rows, []⟩ : Tab) = FT j
            rw [← hr1]
           rw [e]; exact hT
          have HT' := Lib.hid hT'
          clear hT' hP1 hP2 hP3 hstp hT hs1 hs3 hb h2 htb1 htb3 h1 h3 hr1 hr0 KB KR
          go_wp2_with fail
          refine (HP2.out _).mono ?_
          rintro e w2 ⟨rfl, rfl⟩
          go_wp2_with fail
          refine (HP1.out _).mono ?_
          rintro e w2 ⟨rfl, rfl⟩
          go_wp2_with fail
          refine (HP3.out _).mono ?_
          rintro e w2 ⟨rfl, rfl⟩
          go_wp2_with fail
          go_roundg (n - j)
          case measure => omega
          case rel => exact ⟨j + 1, kv, by go_num, by omega, by omega, HKB.out, HKR.out, HT'.out, hz, HB.out⟩
         ·obtain ⟨cc, ⟨k, t⟩, hcc⟩ := snoc_of (FT j).row (by omega)
          obtain ⟨g, cap, rfl, hgB, hgl, hgc, hgf, hset⟩ := hT.more hcc
          have hst2 := hset s.data.toList
          rw [hcc, moreT_snoc] at hstp
          rw [← hstp] at hst2
          have hcl : cc.length + 1 ≤ 10000000 := by rw [hcc, List.length_append] at hRC; simpa using hRC
          have htl : t.length ≤ 10000000 := by
           have h5 := rt_mem (a := (FT j).row) (x := (k, t)) (by rw [hcc]; simp)
           have h6 : t.length + 1 ≤ rt (FT j).row := h5
           omega
          have hjoin : (⟨t.toArray⟩ : ByteArray) ++ ⟨#[10]⟩ ++ s = ⟨(t ++ [10] ++ s.data.toList).toArray⟩ := by
           refine bytes_ext ?_
           simp
          obtain ⟨TA, hTA⟩ : ∃ TA : ByteArray, ⟨t.toArray⟩ = TA := ⟨_, rfl⟩
          have hTAs : TA.size ≤ 10000000 := by rw [← hTA]; exact htl
          obtain ⟨TN, hTN⟩ : ∃ TN : ByteArray, ⟨(t ++ [10] ++ s.data.toList).toArray⟩ = TN := ⟨_, rfl⟩
          rw [hTA] at hgc hjoin
          rw [hTN] at hst2 hjoin
          have hbs : Below w.heap.size w (wr.setCell ⟨g, cc.length * 2 + 1, none⟩ (.string TN)) := HB.out.setCell (p := ⟨g, cc.length * 2 + 1, none⟩) (by show w.heap.size ≤ g; omega) _
          have hk3 := HKB.out.far (p := ⟨g, cc.length * 2 + 1, none⟩) (by show w.heap.size + 1 ≠ g; omega) (.string TN)
          have hk4 := HKR.out.far (p := ⟨g, cc.length * 2 + 1, none⟩) (by show w.heap.size ≠ g; omega) (.string TN)
          have f1 : decide (0 < cc.length + 1) = true := by simp
          have HST2 := Lib.hid hst2
          have HBS := Lib.hid hbs
          have HJ := Lib.hid hjoin
          have HK3 := Lib.hid hk3
          have HK4 := Lib.hid hk4
          clear hst2 hbs hset hjoin hTA hTN hcc hP1 hP2 hP3 hstp hT hs1 hs3 hb h2 htb1 htb3 h1 h3 hr0 KB KR hk3 hk4
          go_wp2_with fail
          refine (HP2.out _).mono ?_
          rintro e w2 ⟨rfl, rfl⟩
          go_wp2_with fail
          refine (HP1.out _).mono ?_
          rintro e w2 ⟨rfl, rfl⟩
          go_wp2_with fail
          refine (HP3.out _).mono ?_
          rintro e w2 ⟨rfl, rfl⟩
          go_wp2_with fail
          rw [HJ.out]
          go_roundg (n - j)
          case measure => omega
          case rel => exact ⟨j + 1, kv, by go_num, by omega, by omega, HK3.out, HK4.out, HST2.out, by rw [World.size_setCell]; omega, HBS.out⟩
  ·have hje : j = n := by omega
   subst hje
   have g1 : decide (j < j) = false := by simp
   have hAj := HAA.out
   obtain ⟨pn, cn, rfl, hcsl⟩ := hT.csl
   have hrw := HROW.out j pn cn wr hcsl
   have htb := HTB.out j
   have hRC : (FT j).row.length ≤ 10000000 := Nat.le_trans (rt_len _) htb.1
   have hKL : (rowsB (FT j).rows).len ≤ 10000000 := Nat.le_trans (rowsB_len _) htb.2.2
   have HSTP := Lib.hid hAj
   have HT0 := Lib.hid hT
   have HRW := Lib.hid hrw
   have HB := Lib.hid hb
   have HKB := Lib.hid KB
   have HKR := Lib.hid KR
   clear hT hb hcsl hrw KB KR hjn htb hAj
   go_wp2_with fail
   refine HRW.out.mono ?_
   rintro e w3 ⟨kp, kc, rfl, hsl, hb3⟩
   have hzz3 := hb3.size
   by_cases hre : (FT j).row = []
   ·have g2 : decide (0 < (FT j).row.length) = false := by rw [hre]; rfl
    have hOw : blsS.own 44 FF (w.heap.size + 2) (w3.alloc (.cells #[.int .i64 8, .int .i64 0, .string ⟨#[]⟩, .slice none 0 0, .slice kp (cellsB (FT j).row).len kc] 44)) kv (rowsB AA) := by
     have h5 := (HT0.out.below (below_then hb3 (below_new0 w3 (.cells #[.int .i64 8, .int .i64 0, .string ⟨#[]⟩, .slice none 0 0, .slice kp (cellsB (FT j).row).len kc] 44)))).own
     rw [HSTP.out, hre, rows_none]
     rw [hre] at h5; exact h5
    have hbA := below_then hb3 (below_new0 w3 (.cells #[.int .i64 8, .int .i64 0, .string ⟨#[]⟩, .slice none 0 0, .slice kp (cellsB (FT j).row).len kc] 44))
    have K6 := HKR.out.below (hbA.mono hz) (by omega)
    have K5 := HKB.out.below (hbA.mono hz) (by omega)
    have hb6 := below_then HB.out hbA
    obtain ⟨pk, ck, hkv⟩ := hOw.form
    replace hkv : kv = .slice pk (rowsB AA).len ck := hkv
    have hsl5 := hOw.sl
    have hzz := hbA.size
    subst hkv
    clear hOw hbA hsl hb3 hre
    obtain ⟨x0, x1, x2, x3, x4⟩ := K5.five
    have hl4 := K5.lt
    obtain ⟨y0, y1, y2, y3, y4⟩ := K6.five
    have f0 := K6.free 0
    have f1 := K6.free 1
    have f2 := K6.free 2
    have f3 := K6.free 3
    have f4 := K6.free 4
    have hl2 := K6.lt
    have h4 := blsS.sl_on (q' := fun k => w.heap.size ≤ k ∧ k ≠ w.heap.size) hsl5 (Kept.mono fun k hk _ => by rcases hk with h | h; exact h.elim; omega)
    have H4 := Lib.hid h4
    have HK2r := Lib.hid K6
    have HBX := Lib.hid hb6
    clear hsl5 h4 K5 K6 hb6
    go_wp2_with fail
    have KZ := ((((HK2r.out.put 0 (.int .i64 7)).put 1 (.int .i64 0)).put 2 (.string ⟨#[]⟩)).put 3 (.slice none 0 0)).put 4 (.slice pk (rowsB AA).len ck)
    obtain ⟨z0, z1, z2, z3, z4⟩ := KZ.five
    exact bodyPost_ret (v := .agg #[.int .i64 7, .int .i64 0, .string ⟨#[]⟩, .slice none 0 0, .slice pk (rowsB AA).len ck]) (by simp [results, Tryz.results76, go_sem, z0, z1, z2, z3, z4]) rfl
     ⟨pk, ck, rfl, blsS.sl_on (blsS.sl_on H4.out ((((Kept.put (fun k hk => hk.2) 0 _).trans (Kept.put (fun k hk => hk.2) 1 _)).trans (Kept.put (fun k hk => hk.2) 2 _)).trans ((Kept.put (fun k hk => hk.2) 3 _).trans (Kept.put (fun k hk => hk.2) 4 _)))) (Kept.mono fun k hk _ => hk.1),
      ((((HBX.out.setCell (p := ⟨w.heap.size, 0, none⟩) (Nat.le_refl _) _).setCell (p := ⟨w.heap.size, 1, none⟩) (Nat.le_refl _) _).setCell (p := ⟨w.heap.size, 2, none⟩) (Nat.le_refl _) _).setCell (p := ⟨w.heap.size, 3, none⟩) (Nat.le_refl _) _).setCell (p := ⟨w.heap.size, 4, none⟩) (Nat.le_refl _) _⟩
   ·have hrl : 0 < (FT j).row.length := by
     rcases Nat.eq_zero_or_pos (FT j).row.length with h | h
     ·exact absurd (List.length_eq_zero_iff.1 h) hre
     ·exact h
    have g2 : decide (0 < (FT j).row.length) = true := decide_eq_true hrl
    have hlt := HT0.out.own.lt
    have K7 := Known.made w3 44 #[.int .i64 8, .int .i64 0, .string ⟨#[]⟩, .slice none 0 0, .slice kp (cellsB (FT j).row).len kc]
    obtain ⟨y0, y1, y2, y3, y4⟩ := K7.five
    have hl7 := K7.lt
    have hbA : Below wr.heap.size wr (w3.alloc (.cells #[.int .i64 8, .int .i64 0, .string ⟨#[]⟩, .slice none 0 0, .slice kp (cellsB (FT j).row).len kc] 44)) := below_then hb3 (below_new0 _ _)
    have hbA2 := below_then hbA (below_new0 _ (.cells #[.int .i64 8, .int .i64 0, .string ⟨#[]⟩, .slice none 0 0, .slice kp (cellsB (FT j).row).len kc] 44))
    have KB3 := HKB.out.below (hbA.mono hz) (by omega)
    have x4 := KB3.cell 4
    have hl4 := KB3.lt
    have hoA := (HT0.out.below hbA2).own
    have hsr : blsS.src (Shp.kind FF (w.heap.size + 2) kv) ((w3.alloc (.cells #[.int .i64 8, .int .i64 0, .string ⟨#[]⟩, .slice none 0 0, .slice kp (cellsB (FT j).row).len kc] 44)).alloc (.cells #[.int .i64 8, .int .i64 0, .string ⟨#[]⟩, .slice none 0 0, .slice kp (cellsB (FT j).row).len kc] 44)) (.slice (some ⟨w3.heap.size + 1, 0, none⟩) 1 1) (rowOne (FT j).row) := by
     have h6 := src_rowOne (q := Shp.kind FF (w.heap.size + 2) kv) (w := w3.alloc (.cells #[.int .i64 8, .int .i64 0, .string ⟨#[]⟩, .slice none 0 0, .slice kp (cellsB (FT j).row).len kc] 44)) (c := (FT j).row) (ty := 44) (blsS.sl_on (blsS.sl_on hsl (Kept.mono fun q hq _ => ⟨.inr (by omega), fun e => by have := (hlt q e).2; omega⟩)) (Kept.alloc _))
     rw [World.size_alloc] at h6
     exact h6
    have hzW : w.heap.size + 2 ≤ ((w3.alloc (.cells #[.int .i64 8, .int .i64 0, .string ⟨#[]⟩, .slice none 0 0, .slice kp (cellsB (FT j).row).len kc] 44)).alloc (.cells #[.int .i64 8, .int .i64 0, .string ⟨#[]⟩, .slice none 0 0, .slice kp (cellsB (FT j).row).len kc] 44)).heap.size := by rw [World.size_alloc, World.size_alloc]; omega
    have HSR := Lib.hid hsr
    have HOA := Lib.hid hoA
    have HBA := Lib.hid hbA2
    have HRE := Lib.hid hre
    have hkl : blsS.len (rowsB (FT j).rows) ≤ 10000000 := hKL
    clear hsl hb3 hsr hoA hbA hbA2 K7 KB3 hlt hre
    go_wp2_with (at_builtin; go_must (refine append_shp blsS tyB _ rfl _ _ rfl HOA.out rfl HSR.out rfl (by show (blsS.len (rowsB (FT j).rows) + 1) * 81 ≤ _; omega) hzW ?_); intro v' w5 O5 hgrow hbel hkd; have hb5 : Below (w.heap.size + 2) wr w5 := hbel _ (HBA.out.mono hz); have f5 := (HKB.out.below hb5 (by omega)).free 4; have hkr5 := HKR.out.below hb5 (by omega); obtain ⟨x0, x1, x2, x3, x5⟩ := (HKB.out.below hb5 (by omega)).five; obtain ⟨z0, z1, z2, z3, z4⟩ := hkr5.five; have f0 := hkr5.free 0; have f1 := hkr5.free 1; have f2 := hkr5.free 2; have f3 := hkr5.free 3; have f4 := hkr5.free 4; have hlr := hkr5.lt; have hl5 := (HKB.out.below hb5 (by omega)).lt; obtain ⟨pk5, ck5, hv5⟩ := O5.form; subst hv5)
    have K5 := (HKB.out.below hb5 (by omega)).put 4 (.slice pk5 (blsS.len (blsS.app (rowsB (FT j).rows) (rowOne (FT j).row))) ck5)
    have K6 := (HKR.out.below hb5 (by omega)).far (p := ⟨w.heap.size + 1, 4, none⟩) (by show w.heap.size ≠ w.heap.size + 1; omega) (.slice pk5 (blsS.len (blsS.app (rowsB (FT j).rows) (rowOne (FT j).row))) ck5)
    have hb6 : Below w.heap.size w (w5.setCell ⟨w.heap.size + 1, 4, none⟩ (.slice pk5 (blsS.len (blsS.app (rowsB (FT j).rows) (rowOne (FT j).row))) ck5)) := (HB.out.trans (hb5.mono (by omega))).setCell (p := ⟨w.heap.size + 1, 4, none⟩) (by show w.heap.size ≤ w.heap.size + 1; omega) _
    have hz6 : w.heap.size + 2 ≤ (w5.setCell ⟨w.heap.size + 1, 4, none⟩ (.slice pk5 (blsS.len (blsS.app (rowsB (FT j).rows) (rowOne (FT j).row))) ck5)).heap.size := by rw [World.size_setCell]; have := hb5.size; omega
    have hRT : RT (w.heap.size + 2) (w5.setCell ⟨w.heap.size + 1, 4, none⟩ (.slice pk5 (blsS.len (blsS.app (rowsB (FT j).rows) (rowOne (FT j).row))) ck5)) (.slice pk5 (blsS.len (blsS.app (rowsB (FT j).rows) (rowOne (FT j).row))) ck5) (.slice none 0 0) ⟨(FT j).rows ++ [(FT j).row], []⟩ :=
     RT.put (RT.of_own (by rw [rows_snoc _ _ HRE.out]; exact O5)) (by omega) _ _
    have H5 := Lib.hid K5
    have H6 := Lib.hid K6
    have HRT := Lib.hid hRT
    have HB6 := Lib.hid hb6
    clear K5 K6 hRT O5 hgrow hbel hkd hb6
    have hsl5 := HRT.out.own.sl
    have K5 := H5.out
    have K6 := H6.out
    have hb6 := HB6.out
    have eAA : (⟨(FT j).rows ++ [(FT j).row], []⟩ : Tab).rows = AA := HSTP.out.symm
    rw [eAA] at hsl5
    have eL : blsS.len (blsS.app (rowsB (FT j).rows) (rowOne (FT j).row)) = (rowsB AA).len := by rw [HSTP.out, rows_snoc _ _ HRE.out]; rfl
    clear H5 H6 HRT HB6
    rw [eL] at hsl5 K5 K6 hb6 ⊢
    have h4 := blsS.sl_on (q' := fun k => w.heap.size ≤ k ∧ k ≠ w.heap.size) hsl5 (Kept.mono fun k hk _ => by rcases hk with h | h; exact h.elim; omega)
    have H4 := Lib.hid h4
    have HK2r := Lib.hid K6
    have HBX := Lib.hid hb6
    clear z0 z1 z2 z3 z4
    have KZ := ((((HK2r.out.put 0 (.int .i64 7)).put 1 (.int .i64 0)).put 2 (.string ⟨#[]⟩)).put 3 (.slice none 0 0)).put 4 (.slice pk5 (rowsB AA).len ck5)
    obtain ⟨z0, z1, z2, z3, z4⟩ := KZ.five
    exact bodyPost_ret (v := .agg #[.int .i64 7, .int .i64 0, .string ⟨#[]⟩, .slice none 0 0, .slice pk5 (rowsB AA).len ck5]) (by simp [results, Tryz.results76, go_sem, z0, z1, z2, z3, z4]) rfl
     ⟨pk5, ck5, rfl, blsS.sl_on (blsS.sl_on H4.out ((((Kept.put (fun k hk => hk.2) 0 _).trans (Kept.put (fun k hk => hk.2) 1 _)).trans (Kept.put (fun k hk => hk.2) 2 _)).trans ((Kept.put (fun k hk => hk.2) 3 _).trans (Kept.put (fun k hk => hk.2) 4 _)))) (Kept.mono fun k hk _ => hk.1),
      ((((HBX.out.setCell (p := ⟨w.heap.size, 0, none⟩) (Nat.le_refl _) _).setCell (p := ⟨w.heap.size, 1, none⟩) (Nat.le_refl _) _).setCell (p := ⟨w.heap.size, 2, none⟩) (Nat.le_refl _) _).setCell (p := ⟨w.heap.size, 3, none⟩) (Nat.le_refl _) _).setCell (p := ⟨w.heap.size, 4, none⟩) (Nat.le_refl _) _⟩
end Go.Proofs.YthieinfonomeeaaGreatDoor
namespace Go.Proofs.YthieinfonomeeaaGreatDoor
open Go.RowKit Doc Tit Inl Blk
set_option linter.unusedVariables false
attribute [local go_sem ↓] Go.wp_at_zero Go.wp_at_succ
theorem tw_lines (pr : Line → Bool) : ∀ (l : List ByteArray), ((bl l).takeWhile pr).length ≤ l.length ∧ (∀ (i : Nat) (y : ByteArray), i < ((bl l).takeWhile pr).length → l[i]? = some y → pr y.data.toList = true) ∧ (∀ y : ByteArray, l[((bl l).takeWhile pr).length]? = some y → pr y.data.toList = false)
 | [] => ⟨Nat.le_refl _, (fun i y h => by cases h), fun y h => by simp at h⟩
 | a :: r => by
   obtain ⟨h1, h2, h3⟩ := tw_lines pr r
   show ((a.data.toList :: bl r).takeWhile pr).length ≤ _ ∧ (∀ (i : Nat) (y : ByteArray), i < ((a.data.toList :: bl r).takeWhile pr).length → _) ∧ (∀ y : ByteArray, (a :: r)[((a.data.toList :: bl r).takeWhile pr).length]? = some y → _)
   rw [List.takeWhile_cons]
   cases hp : pr a.data.toList with
   | true =>
     refine ⟨by simp only [if_true, List.length_cons]; omega, fun i y hi hy => ?_, fun y hy => ?_⟩
     ·cases i with
      | zero =>
        have : a = y := by simpa using hy
        rw [← this]; exact hp
      | succ i =>
        simp only [if_true, List.length_cons] at hi
        exact h2 i y (by omega) (by simpa using hy)
     ·simp only [if_true, List.length_cons] at hy
      exact h3 y (by simpa using hy)
   | false =>
     refine ⟨Nat.zero_le _, (fun i y hi => by simp at hi), fun y hy => ?_⟩
     have : a = y := by simpa using hy
     rw [← this]; exact hp
def OneR (rule : Int) (x : ByteArray) (l : List ByteArray) (p : Option Addr) (c : Nat) (w : World) : Prop :=
 Calls Tryz.prog 38 #[.slice p (l.length + 1) c, .int .i64 rule] w fun e w' => ∃ (a v : Int) (t : ByteArray) (n : Ins) (kd : Bls) (u kv : Value),
  e = .returned (.tuple #[.agg #[.int .i64 a, .int .i64 v, .string t, u, kv], .int .i64 ((firstB (x.data.toList :: bl l)).2 : Nat)]) ∧ (firstB (x.data.toList :: bl l)).1 = .cons a v t n kd .nil ∧
  insS.sl (fun k => w.heap.size ≤ k) w' u n ∧ blsS.sl (fun k => w.heap.size ≤ k) w' kv kd ∧ Below w.heap.size w w'
set_option maxRecDepth 10000 in
set_option maxHeartbeats 1000000 in
theorem rone_k3 (x : ByteArray) (l : List ByteArray) (p : Option Addr) (c : Nat) (w : World) (hk : kindL x.data.toList = 3) : OneR 4 x l p c w := by
 unfold OneR
 rw [first3 _ hk]
 clear hk
 have K := Known.made w 44 ZB
 have f0 := K.free 0
 have f1 := K.free 1
 have f2 := K.free 2
 have f3 := K.free 3
 have f4 := K.free 4
 obtain ⟨z0, z1, z2, z3, z4⟩ := K.five
 have hlk := K.lt
 go_enter Tryz.func38, Tryz.ntmps38
 go_wp2_with fail
 obtain ⟨y0, y1, y2, y3, y4⟩ := (Known.made w 44 #[.int .i64 5, .int .i64 0, .string ⟨#[]⟩, .slice none 0 0, .slice none 0 0]).five
 exact bodyPost_ret (v := .tuple #[.agg #[.int .i64 5, .int .i64 0, .string ⟨#[]⟩, .slice none 0 0, .slice none 0 0], .int .i64 1]) (by simp [results, Tryz.results38, go_sem, y0, y1, y2, y3, y4]) rfl
  ⟨5, 0, ⟨#[]⟩, .nil, .nil, .slice none 0 0, .slice none 0 0, rfl, rfl, Sl.empty, Sl.empty, below_new0 _ _⟩
set_option maxRecDepth 10000 in
set_option maxHeartbeats 2000000 in
theorem rone_k2 (x : ByteArray) (l : List ByteArray) (p : Option Addr) (c : Nat) (w : World) (hs : x.size ≤ 100000000) (hv : SL w p c (x :: l)) (hk : kindL x.data.toList = 2) : OneR 3 x l p c w := by
 obtain ⟨b, o, rfl, hb, hc⟩ := hv.head
 have d0 := hc 0 x rfl
 rw [Nat.add_zero] at d0
 have hcl := hv.1
 rw [List.length_cons] at hcl
 unfold OneR
 rw [first2 _ hk]
 have hH := fun W => rheading_any x W hs
 have hsome : ∃ n T, hd x.data.toList = some (n, T) ∧ T.length ≤ x.size := by
  have h1 := kind2_some hk
  cases h2 : hd x.data.toList with
  | none => rw [h2] at h1; cases h1
  | some y =>
    obtain ⟨n, T⟩ := y
    have h3 := hd_len h2
    have hz : x.data.toList.length = x.size := by simp
    exact ⟨n, T, rfl, by omega⟩
 obtain ⟨n, T, hd1, hT⟩ := hsome
 rw [hd1] at hH ⊢
 have hH : ∀ W, Calls Tryz.prog 71 #[.string x] W fun e w' => e = .returned (.tuple #[.int .i64 (n : Int), .string ⟨T.toArray⟩]) ∧ W = w' := hH
 have hP := fun W => rparse17_any ⟨T.toArray⟩ W (by show T.length ≤ _; omega)
 have eT : (⟨T.toArray⟩ : ByteArray).data.toList = T := rfl
 rw [eT] at hP
 have eg : ((some (n, T)).getD (0, [])) = (n, T) := rfl
 rw [eg]
 obtain ⟨TB, hTB⟩ : ∃ TB : ByteArray, ⟨T.toArray⟩ = TB := ⟨_, rfl⟩
 rw [hTB] at hH hP
 obtain ⟨R, hR⟩ : ∃ R, read T = R := ⟨_, rfl⟩
 simp only [hR] at hP ⊢
 have HH := Lib.hid hH
 have HP := Lib.hid hP
 have K := Known.made w 44 #[.int .i64 0, .int .i64 0, .string ⟨#[]⟩, .slice none 0 0, .slice none 0 0]
 have hbK := below_new0 w (.cells #[.int .i64 0, .int .i64 0, .string ⟨#[]⟩, .slice none 0 0, .slice none 0 0] 44)
 have hlk := K.lt
 have d1 := (hbK.cell (p := ⟨b, o, none⟩) hb).trans d0
 have hb1 : b < (w.alloc (.cells #[.int .i64 0, .int .i64 0, .string ⟨#[]⟩, .slice none 0 0, .slice none 0 0] 44)).heap.size := Nat.lt_of_lt_of_le hb hbK.size
 have HK := Lib.hid K
 clear hk hc hv hH hP hd1 eT eg hTB hR K
 go_enter Tryz.func38, Tryz.ntmps38
 go_wp2_with fail
 refine (HH.out _).mono ?_
 rintro e w2 ⟨rfl, rfl⟩
 go_wp2_with fail
 refine (HP.out _).mono ?_
 rintro e w3 ⟨pI, cI, rfl, hsl, hb3⟩
 have hb4 := below_then hbK hb3
 have hz3 := hb3.size
 have KW := HK.out.below hb3 (by omega)
 have f0 := KW.free 0
 have f1 := KW.free 1
 have f2 := KW.free 2
 have f3 := KW.free 3
 have f4 := KW.free 4
 obtain ⟨z0, z1, z2, z3, z4⟩ := KW.five
 have hlW := KW.lt
 have hsl1 : insS.sl (fun k => w.heap.size ≤ k ∧ k ≠ w.heap.size) w3 (.slice pI R.len cI) R := insS.sl_on hsl (Kept.mono fun k hk _ => by omega)
 have HSL := Lib.hid hsl1
 have HKW := Lib.hid KW
 clear hsl hsl1 hb3 KW
 go_wp2_with fail
 clear z0 z1 z2 z3 z4
 have KZ := (((((HKW.out.put 0 (.int .i64 1)).put 1 (.int .i64 (n : Int))).put 2 (.string ⟨#[]⟩)).put 3 (.slice pI R.len cI)).put 4 (.slice none 0 0))
 obtain ⟨z0, z1, z2, z3, z4⟩ := KZ.five
 exact bodyPost_ret (v := .tuple #[.agg #[.int .i64 1, .int .i64 (n : Int), .string ⟨#[]⟩, .slice pI R.len cI, .slice none 0 0], .int .i64 1]) (by simp [results, Tryz.results38, go_sem, z0, z1, z2, z3, z4]) rfl
  ⟨1, n, ⟨#[]⟩, R, .nil, .slice pI R.len cI, .slice none 0 0, rfl, rfl, insS.sl_on (insS.sl_on HSL.out ((((Kept.put (fun k hk => hk.2) 0 _).trans (Kept.put (fun k hk => hk.2) 1 _)).trans (Kept.put (fun k hk => hk.2) 2 _)).trans ((Kept.put (fun k hk => hk.2) 3 _).trans (Kept.put (fun k hk => hk.2) 4 _)))) (Kept.mono fun k hk _ => hk.1), blsS.sl_on (blsS.sl_on (q := fun k => w.heap.size ≤ k ∧ k ≠ w.heap.size) Sl.empty ((((Kept.put (fun k hk => hk.2) 0 _).trans (Kept.put (fun k hk => hk.2) 1 _)).trans (Kept.put (fun k hk => hk.2) 2 _)).trans ((Kept.put (fun k hk => hk.2) 3 _).trans (Kept.put (fun k hk => hk.2) 4 _)))) (Kept.mono fun k hk _ => hk.1), (((((hb4.setCell (p := ⟨w.heap.size, 0, none⟩) (Nat.le_refl _) _).setCell (p := ⟨w.heap.size, 1, none⟩) (Nat.le_refl _) _).setCell (p := ⟨w.heap.size, 2, none⟩) (Nat.le_refl _) _).setCell (p := ⟨w.heap.size, 3, none⟩) (Nat.le_refl _) _).setCell (p := ⟨w.heap.size, 4, none⟩) (Nat.le_refl _) _)⟩
end Go.Proofs.YthieinfonomeeaaGreatDoor
