/-
  The claim's own texts, packed. Conditions: those typed in each theorem.
-/
import Derived.Test.YthieinfonomeeaaGreatDoorZAay
import Derived.Test.YthieinfonomeeaaGreatDoorZAae
import Derived.Test.YthieinfonomeeaaGreatDoorZAai
namespace Go.Proofs.YthieinfonomeeaaGreatDoor
open Go.RowKit Doc Tit Inl Blk
set_option linter.unusedVariables false
attribute [local go_sem ↓] Go.wp_at_zero Go.wp_at_succ
def cvs : List Cell → List Value
 | [] => []
 | (k, t) :: r => .int .i64 9 :: .int .i64 (k : Int) :: .string ⟨t.toArray⟩ :: .slice none 0 0 :: .slice none 0 0 :: cvs r
theorem cvs_app : ∀ a b : List Cell, cvs (a ++ b) = cvs a ++ cvs b
 | [], b => rfl
 | (x, y) :: r, b => by simp [cvs, cvs_app r b]
theorem cvs_len : ∀ a : List Cell, (cvs a).length = a.length * 5
 | [] => rfl
 | (x, y) :: r => by simp [cvs, cvs_len r]; omega
theorem cvs_one : ∀ a : List Cell, ∀ u ∈ cvs a, u.oneCell' = true
 | [], u, h => by cases h
 | (x, y) :: r, u, h => by
   simp only [cvs, List.mem_cons] at h
   rcases h with rfl | rfl | rfl | rfl | rfl | h
   ·rfl
   ·rfl
   ·rfl
   ·rfl
   ·rfl
   ·exact cvs_one r u h
def celS : Shp (List Cell) where
 len := List.length
 app := fun a b => a ++ b
 sz := 5
 enc := fun _ _ l xs => xs = cvs l
 nil := []
 enc_nil := fun _ _ => rfl
 len_nil := rfl
 nil_of := fun L h => List.length_eq_zero_iff.1 h
 on := fun _ h => h
 join := fun h k => by rw [h, k, cvs_app]
 length := fun h => by rw [h, cvs_len]
 ones := fun h u hu => by rw [h] at hu; exact cvs_one _ u hu
 len_app := fun a b => List.length_append
theorem src_cel {q : Nat → Prop} {w : World} {k : Nat} {t : Line} {ty : TypeId} : celS.src q (w.alloc (.cells #[.int .i64 9, .int .i64 (k : Int), .string ⟨t.toArray⟩, .slice none 0 0, .slice none 0 0] ty)) (.slice (some ⟨w.heap.size, 0, none⟩) 1 1) [(k, t)] := ⟨_, Src.new w ty _ 1 1, rfl⟩
theorem tyBC : Typ Tryz.prog 23 44 celS.sz 80 := tyB
theorem split_bl (a : UInt8) (s : ByteArray) : bl (Lib.splitB ⟨#[a, a]⟩ 0 (Lib.countB s ⟨#[a, a]⟩) s) = spl2 a s.data.toList := by
 show (Lib.splitB ⟨#[a, a]⟩ 0 (Lib.countB s ⟨#[a, a]⟩) s).map (·.data.toList) = _
 rw [Lib.splitB_data]
 exact split_pairs a _ _ (Nat.le_refl _)
set_option maxRecDepth 10000 in
set_option maxHeartbeats 2000000 in
theorem pcells_any (s : ByteArray) (a : UInt8) (k : Nat) (w : World) (hm : MX w) (hs : s.size ≤ 100000000) :
  Calls Tryz.prog 94 #[.string s, .string ⟨#[a, a]⟩, .int .i64 (k : Int)] w fun e w' => ∃ p c, e = .returned (.slice p (spl2 a s.data.toList).length c) ∧
   celS.sl (fun b => w.heap.size ≤ b) w' (.slice p (spl2 a s.data.toList).length c) ((spl2 a s.data.toList).map fun t => (k, t)) ∧ Below w.heap.size w w' := by
 obtain ⟨m, hm⟩ := hm
 have hS := Tryz.strings_Split s ⟨#[a, a]⟩ m w (by omega) hm (by show 1 ≤ 2; decide)
 have hbl := split_bl a s
 have hall := Lib.splitB_all (⟨#[a, a]⟩ : ByteArray) (by show 1 ≤ 2; decide) 0 _ s rfl
 have hle := Lib.countB_le (⟨#[a, a]⟩ : ByteArray) (by show 1 ≤ 2; decide) _ s (Nat.le_refl _)
 obtain ⟨l, hl⟩ : ∃ l, l = Lib.splitB ⟨#[a, a]⟩ 0 (Lib.countB s ⟨#[a, a]⟩) s := ⟨_, rfl⟩
 rw [← hl] at hS hbl hall
 rw [← hbl]
 obtain ⟨n, hn⟩ : ∃ n, n = Lib.countB s ⟨#[a, a]⟩ + 1 := ⟨_, rfl⟩
 rw [← hn] at hS hall
 have hn1 : n ≤ 100000001 := by omega
 have hbn : (bl l).length = n := by rw [bl_length, hall]
 rw [hbn]
 have HS := Lib.hid hS
 have HL := Lib.hid hall
 clear hS hall hle hl hbl hn hbn
 go_enter Tryz.func94, Tryz.ntmps94
 go_wp2_with fail
 refine HS.out.mono ?_
 rintro e W0 ⟨rfl, hW0⟩
 have hcell : ∀ j t, l[j]? = some t → W0.cell? ⟨w.heap.size, 0 + j, none⟩ = some (.string t) := fun j t hj => by
  rw [hW0, Nat.zero_add]
  rw [(Known.made w _ _).cell j]
  simp [hj]
 have hb0 : Below w.heap.size w W0 := by rw [hW0]; exact below_new0 _ _
 have hsz0 : w.heap.size < W0.heap.size := by rw [hW0]; simp
 have HC := Lib.hid hcell
 have HB0 := Lib.hid hb0
 clear hcell hb0 hW0 HS
 go_wp2_with fail
 go_loopg [7, 9, 14] (n + 1) (fun g s7 _ s14 wr => ∃ j : Nat, s14 = .int .i64 j ∧ j ≤ n ∧ n < j + g ∧ Below W0.heap.size W0 wr ∧ celS.own 44 (fun _ => False) W0.heap.size wr s7 ((l.take j).map fun t => (k, t.data.toList)))
 case atStart => exact ⟨0, rfl, by omega, by omega, Below.refl _ _, by rw [List.take_zero]; exact Shp.own.nil⟩
 case round =>
  obtain ⟨j, rfl, hj, hg, hb, hown⟩ := hrel
  have hz := hb.size
  have hlen2 : celS.len ((l.take j).map fun t => (k, t.data.toList)) = j := by show ((l.take j).map fun t => (k, t.data.toList)).length = j; rw [List.length_map, List.length_take, HL.out]; omega
  by_cases hjn : j < n
  ·obtain ⟨t, ht⟩ : ∃ t, l[j]? = some t := ⟨_, List.getElem?_eq_getElem (by rw [HL.out]; exact hjn)⟩
   have g1 : decide (j < n) = true := decide_eq_true hjn
   have d1 := (hb.cell (p := ⟨w.heap.size, 0 + j, none⟩) hsz0).trans (HC.out j t ht)
   rw [Nat.zero_add] at d1
   have hbw : w.heap.size < wr.heap.size := by omega
   have htb : t = ⟨t.data.toList.toArray⟩ := by cases t; simp
   have hoA := hown.below (below_new0 wr (.cells #[.int .i64 9, .int .i64 (k : Int), .string t, .slice none 0 0, .slice none 0 0] 44))
   have hsr : celS.src (Shp.kind (fun _ => False) W0.heap.size u7) (wr.alloc (.cells #[.int .i64 9, .int .i64 (k : Int), .string t, .slice none 0 0, .slice none 0 0] 44)) (.slice (some ⟨wr.heap.size, 0, none⟩) 1 1) [(k, t.data.toList)] := by
    have := src_cel (q := Shp.kind (fun _ => False) W0.heap.size u7) (w := wr) (k := k) (t := t.data.toList) (ty := 44)
    rw [← htb] at this
    exact this
   have htm := take_more (fun t : ByteArray => (k, t.data.toList)) ht
   have hzW : W0.heap.size ≤ (wr.alloc (.cells #[.int .i64 9, .int .i64 (k : Int), .string t, .slice none 0 0, .slice none 0 0] 44)).heap.size := by rw [World.size_alloc]; omega
   have HOA := Lib.hid hoA
   have HLEN := Lib.hid hlen2
   have HTM := Lib.hid htm
   have HB := Lib.hid hb
   have HSR := Lib.hid hsr
   clear hoA hlen2 htm hown hb ht htb hsr
   go_wp2_with (at_builtin; go_must (refine append_shp celS tyBC _ rfl _ _ rfl HOA.out rfl HSR.out rfl (by rw [HLEN.out]; show (j + 1) * 81 ≤ _; omega) hzW ?_); intro v' w3 O3 hgrow hbel hkd)
   have hbn := hbel W0 (below_then HB.out (below_new0 _ _))
   clear hgrow hbel hkd
   go_roundg (n - j)
   case measure => omega
   case rel => exact ⟨j + 1, by go_num, by omega, by omega, hbn, by rw [HTM.out]; exact O3⟩
  ·have hjn : j = n := by omega
   subst hjn
   have g1 : decide (j < j) = false := by simp
   obtain ⟨p', c', hvv⟩ := hown.form
   rw [hlen2] at hvv
   subst hvv
   have htk : l.take j = l := List.take_of_length_le (by rw [HL.out]; exact Nat.le_refl _)
   have h3 := hown.sl
   rw [htk] at h3
   have h4 : celS.sl (fun b => w.heap.size ≤ b) wr (.slice p' j c') ((bl l).map fun t => (k, t)) := by
    have e : ((bl l).map fun t => (k, t)) = l.map fun t => (k, t.data.toList) := by simp [bl]
    rw [e]
    exact celS.sl_on h3 (Kept.mono fun b hb _ => by rcases hb with h | h; exact h.elim; omega)
   have H4 := Lib.hid h4
   have hbb := below_then HB0.out hb
   clear h3 h4 hown
   go_wp2_with fail
   go_ret
   exact ⟨p', c', rfl, H4.out, hbb⟩
end Go.Proofs.YthieinfonomeeaaGreatDoor
namespace Go.Proofs.YthieinfonomeeaaGreatDoor
open Go.RowKit Doc Tit Inl Blk
set_option linter.unusedVariables false
def rt (c : List Cell) : Nat := Blk.tot (c.map (·.2))
theorem tot_app : ∀ a b : List Line, Blk.tot (a ++ b) = Blk.tot a + Blk.tot b
 | [], b => by simp [Blk.tot]
 | x :: r, b => by rw [List.cons_append, Blk.tot, Blk.tot, tot_app r b]; omega
theorem rt_app (a b : List Cell) : rt (a ++ b) = rt a + rt b := by unfold rt; rw [List.map_append, tot_app]
theorem rt_len (a : List Cell) : a.length ≤ rt a := by have := Blk.len_tot (a.map (·.2)); rwa [List.length_map] at this
theorem rt_mem {a : List Cell} {x : Cell} (h : x ∈ a) : x.2.length + 1 ≤ rt a := Blk.tot_mem (List.mem_map.2 ⟨x, h, rfl⟩)
theorem rt_map (k : Nat) (l : List Line) : rt (l.map fun t => (k, t)) = Blk.tot l := by unfold rt; rw [List.map_map]; congr 1; exact List.map_id l
theorem moreT_snoc (l : Line) (k : Nat) (t : Line) : ∀ c : List Cell, moreT l (c ++ [(k, t)]) = c ++ [(k, t ++ [10] ++ l)]
 | [] => rfl
 | [(a, b)] => rfl
 | x :: y :: r => by
   have := moreT_snoc l k t (y :: r)
   simp only [List.cons_append] at this ⊢
   rw [moreT, this]
theorem rt_more (l : Line) : ∀ c : List Cell, rt (moreT l c) ≤ rt c + l.length + 1
 | [] => by simp [moreT, rt, Blk.tot]
 | [(k, t)] => by simp [moreT, rt, Blk.tot]; omega
 | a :: b :: r => by
   have := rt_more l (b :: r)
   simp only [moreT, rt, List.map_cons, Blk.tot] at this ⊢
   omega
def TB (N : Nat) (T : Tab) : Prop := rt T.row ≤ N ∧ (∀ c ∈ T.rows, rt c ≤ N) ∧ T.rows.length ≤ N
theorem TB.step {N : Nat} {T : Tab} (h : TB N T) (l : Line) : TB (N + (l.length + 1)) (tabStep T l) := by
 obtain ⟨h1, h2, h3⟩ := h
 have hs : ∀ a : UInt8, Blk.tot (spl2 a (l.drop 1)) ≤ l.length + 1 := fun a => by
  have := spl2_tot a (l.drop 1)
  rw [List.length_drop] at this
  omega
 have hm := rt_more l T.row
 unfold tabStep
 split
 ·refine ⟨by show rt [] ≤ _; simp [rt, Blk.tot], fun c hc => ?_, by show (T.rows ++ [T.row]).length ≤ _; rw [List.length_append]; simp; omega⟩
  rcases List.mem_append.1 hc with hc | hc
  ·have := h2 c hc; omega
  ·rw [List.mem_singleton.1 hc]; omega
 ·split
  ·refine ⟨?_, fun c hc => Nat.le_trans (h2 c hc) (by omega), Nat.le_trans h3 (by omega)⟩
   show rt (T.row ++ _) ≤ _
   rw [rt_app, rt_map]; have := hs 124; omega
  ·split
   ·refine ⟨?_, fun c hc => Nat.le_trans (h2 c hc) (by omega), Nat.le_trans h3 (by omega)⟩
    show rt (T.row ++ _) ≤ _
    rw [rt_app, rt_map]; have := hs 33; omega
   ·exact ⟨by show rt (moreT l T.row) ≤ _; omega, fun c hc => Nat.le_trans (h2 c hc) (by omega), Nat.le_trans h3 (by omega)⟩
theorem tb_fold : ∀ (ls : List Line) (N : Nat) (T : Tab), TB N T → TB (N + Blk.tot ls) (ls.foldl tabStep T)
 | [], N, T, h => by simpa [Blk.tot] using h
 | l :: r, N, T, h => by
   rw [List.foldl_cons, Blk.tot]
   have := tb_fold r _ _ (h.step l)
   rwa [Nat.add_assoc] at this
theorem tb_all (ls : List Line) : TB (Blk.tot ls) (ls.foldl tabStep ⟨[], []⟩) := by
 have := tb_fold ls 0 ⟨[], []⟩ ⟨by simp [rt, Blk.tot], (fun c hc => by cases hc), Nat.le_refl _⟩
 rwa [Nat.zero_add] at this
theorem cellsB_len : ∀ c : List Cell, (cellsB c).len = c.length
 | [] => rfl
 | (k, t) :: r => by rw [cellsB]; show (cellsB r).len + 1 = _; rw [cellsB_len r]; rfl
theorem cellsB_app : ∀ a b : List Cell, cellsB (a ++ b) = (cellsB a).app (cellsB b)
 | [], b => rfl
 | (k, t) :: r, b => by rw [List.cons_append, cellsB, cellsB, cellsB_app r b]; rfl
theorem rowsB_app : ∀ a b : List (List Cell), rowsB (a ++ b) = (rowsB a).app (rowsB b)
 | [], b => rfl
 | c :: r, b => by
   rw [List.cons_append, rowsB, rowsB, rowsB_app r b]
   split <;> rfl
theorem rowsB_len : ∀ a : List (List Cell), (rowsB a).len ≤ a.length
 | [] => Nat.le_refl _
 | c :: r => by
   have := rowsB_len r
   rw [rowsB, List.length_cons]
   split
   ·omega
   ·show (rowsB r).len + 1 ≤ _; omega
def rwS : Shp (List Value) where
 len := List.length
 app := fun a b => a ++ b
 sz := 1
 enc := fun _ _ l xs => xs = l ∧ ∀ u ∈ l, u.oneCell' = true
 nil := []
 enc_nil := fun _ _ => ⟨rfl, fun u h => by cases h⟩
 len_nil := rfl
 nil_of := fun L h => List.length_eq_zero_iff.1 h
 on := fun _ h => h
 join := fun h k => ⟨by rw [h.1, k.1], fun u hu => by
  rcases List.mem_append.1 hu with hu | hu
  ·exact h.2 u hu
  ·exact k.2 u hu⟩
 length := fun h => by rw [h.1]; simp
 ones := fun h u hu => by rw [h.1] at hu; exact h.2 u hu
 len_app := fun a b => List.length_append
theorem tyRw : Typ Tryz.prog 118 23 rwS.sz 24 := Typ.mk' (z := .slice none 0 0) Tryz.underlying118 (by kernel_rfl) rfl (by decide)
theorem src_rw {q : Nat → Prop} {w : World} {v : Value} {ty : TypeId} (h : v.oneCell' = true) : rwS.src q (w.alloc (.cells #[v] ty)) (.slice (some ⟨w.heap.size, 0, none⟩) 1 1) [v] :=
 ⟨_, Src.new w ty _ 1 1, rfl, fun u hu => by rw [List.mem_singleton.1 hu]; exact h⟩
abbrev FF : Nat → Prop := fun _ => False
abbrev CO (B : Nat) (w : World) (v : Value) (c : List Cell) : Prop := celS.own 44 FF B w v c
abbrev RO (B : Nat) (w : World) (v : Value) (l : List Value) : Prop := rwS.own 23 FF B w v l
theorem CO.keep {B : Nat} {w w' : World} {v : Value} {c : List Cell} (h : CO B w v c) (hk : ∀ k, v.ownBlock = some k → w'.heap[k]? = w.heap[k]?) : CO B w' v c := by
 obtain ⟨xs, h1, h2⟩ := h
 exact ⟨xs, own_on h1 hk, h2⟩
theorem RO.keep {B : Nat} {w w' : World} {v : Value} {c : List Value} (h : RO B w v c) (hk : ∀ k, v.ownBlock = some k → w'.heap[k]? = w.heap[k]?) : RO B w' v c := by
 obtain ⟨xs, h1, h2⟩ := h
 exact ⟨xs, own_on h1 hk, h2⟩
theorem CO.one {B : Nat} {w : World} {v : Value} {c : List Cell} (h : CO B w v c) : v.oneCell' = true := by obtain ⟨p, cap, rfl⟩ := h.form; rfl
def Dj (a b : Value) : Prop := ∀ k, a.ownBlock = some k → b.ownBlock ≠ some k
theorem Dj.symm {a b : Value} (h : Dj a b) : Dj b a := fun k hb ha => h k ha hb
theorem Dj.nil (a : Value) : Dj a (.slice none 0 0) := fun k _ h => by cases h
theorem kept_other {B : Nat} {w w' : World} {v v' u : Value} (hl : ∀ k, u.ownBlock = some k → B ≤ k ∧ k < w.heap.size) (hd : Dj v u) (hk : Kept (Shp.kind FF B v) (Shp.kind FF B v') w w') :
  (∀ k, u.ownBlock = some k → w'.heap[k]? = w.heap[k]?) ∧ Dj v' u := by
 have h1 : ∀ k, u.ownBlock = some k → Shp.kind FF B v' k ∧ w'.heap[k]? = w.heap[k]? := fun k hu => hk k ⟨.inr (hl k hu).1, fun e => hd k e hu⟩ (hl k hu).2
 exact ⟨fun k hu => (h1 k hu).2, fun k hv hu => (h1 k hu).1.2 hv⟩
structure TS (B : Nat) (w : World) (v3 v4 : Value) (T : Tab) (rv : List Value) : Prop where
 rows : RO B w v3 rv
 cur : CO B w v4 T.row
 len : rv.length = T.rows.length
 each : ∀ (i : Nat) (u : Value) (c : List Cell), rv[i]? = some u → T.rows[i]? = some c → CO B w u c
 d : Dj v3 v4
 dr : ∀ u ∈ rv, Dj v3 u ∧ Dj v4 u
 pw : rv.Pairwise Dj
theorem TS.lt {B : Nat} {w : World} {v3 v4 : Value} {T : Tab} {rv : List Value} (h : TS B w v3 v4 T rv) {u : Value} (hu : u ∈ rv) : ∀ k, u.ownBlock = some k → B ≤ k ∧ k < w.heap.size := by
 obtain ⟨i, hi⟩ := List.mem_iff_getElem?.1 hu
 have hl := (List.getElem?_eq_some_iff.1 hi).1
 have hl2 : i < T.rows.length := by rw [← h.len]; exact hl
 exact (h.each i u T.rows[i] hi (List.getElem?_eq_getElem hl2)).lt
theorem TS.start (B : Nat) (w : World) : TS B w (.slice none 0 0) (.slice none 0 0) ⟨[], []⟩ [] :=
 ⟨Shp.own.nil, Shp.own.nil, rfl, (fun i u c h => by simp at h), Dj.nil _, (fun u h => by cases h), List.Pairwise.nil⟩
theorem TS.below {B : Nat} {w w' : World} {v3 v4 : Value} {T : Tab} {rv : List Value} (h : TS B w v3 v4 T rv) (hb : Below w.heap.size w w') : TS B w' v3 v4 T rv :=
 ⟨h.rows.below hb, h.cur.below hb, h.len, fun i u c hi hc => (h.each i u c hi hc).below hb, h.d, h.dr, h.pw⟩
theorem TS.app {B : Nat} {w w' : World} {v3 v4 v' : Value} {T : Tab} {rv : List Value} (h : TS B w v3 v4 T rv) {new : List Cell} (hO : CO B w' v' (T.row ++ new)) (hk : Kept (Shp.kind FF B v4) (Shp.kind FF B v') w w') : TS B w' v3 v' ⟨T.rows, T.row ++ new⟩ rv := by
 have h3 := kept_other h.rows.lt h.d.symm hk
 refine ⟨h.rows.keep h3.1, hO, h.len, fun i u c hi hc => ?_, h3.2.symm, fun u hu => ?_, h.pw⟩
 ·have hu := List.mem_of_getElem? hi
  exact (h.each i u c hi hc).keep (kept_other (h.lt hu) (h.dr u hu).2 hk).1
 ·exact ⟨(h.dr u hu).1, (kept_other (h.lt hu) (h.dr u hu).2 hk).2⟩
theorem TS.fin {B : Nat} {w w' : World} {v3 v4 v' : Value} {T : Tab} {rv : List Value} (h : TS B w v3 v4 T rv) (hO : RO B w' v' (rv ++ [v4])) (hk : Kept (Shp.kind FF B v3) (Shp.kind FF B v') w w') : TS B w' v' (.slice none 0 0) ⟨T.rows ++ [T.row], []⟩ (rv ++ [v4]) := by
 have h4 := kept_other h.cur.lt h.d hk
 refine ⟨hO, Shp.own.nil, by rw [List.length_append, h.len]; simp, fun i u c hi hc => ?_, Dj.nil _, fun u hu => ⟨?_, (Dj.nil u).symm⟩, ?_⟩
 ·by_cases hlt : i < rv.length
  ·have hlt2 := hlt
   rw [h.len] at hlt2
   rw [List.getElem?_append_left hlt] at hi
   have hc : (T.rows ++ [T.row])[i]? = some c := hc
   rw [List.getElem?_append_left hlt2] at hc
   have hu := List.mem_of_getElem? hi
   exact (h.each i u c hi hc).keep (kept_other (h.lt hu) (h.dr u hu).1 hk).1
  ·have hi2 := (List.getElem?_eq_some_iff.1 hi).1
   rw [List.length_append, List.length_singleton] at hi2
   have e : i = rv.length := by omega
   subst e
   have hc : (T.rows ++ [T.row])[rv.length]? = some c := hc
   rw [h.len, List.getElem?_append_right (Nat.le_refl _), Nat.sub_self] at hc
   rw [List.getElem?_append_right (Nat.le_refl _), Nat.sub_self] at hi
   have e1 : v4 = u := by simpa using hi
   have e2 : T.row = c := by simpa using hc
   rw [← e1, ← e2]
   exact h.cur.keep h4.1
 ·rcases List.mem_append.1 hu with hu | hu
  ·exact (kept_other (h.lt hu) (h.dr u hu).1 hk).2
  ·rw [List.mem_singleton.1 hu]; exact h4.2
 ·exact List.pairwise_append.2 ⟨h.pw, List.pairwise_singleton _ _, fun a ha b hb => by rw [List.mem_singleton.1 hb]; exact (h.dr a ha).2.symm⟩
theorem set_third {α : Type} (ys r : List α) (a b c d e x : α) : (ys ++ a :: b :: c :: d :: e :: r).set (ys.length + 2) x = ys ++ a :: b :: x :: d :: e :: r := by
 rw [List.set_append_right _ _ (by omega)]
 congr 1
 rw [show ys.length + 2 - ys.length = 2 by omega]
 rfl
theorem set_fourth {α : Type} (ys r : List α) (a b c d e x : α) : (ys ++ a :: b :: c :: d :: e :: r).set (ys.length + 3) x = ys ++ a :: b :: c :: x :: e :: r := by
 rw [List.set_append_right _ _ (by omega)]
 congr 1
 rw [show ys.length + 3 - ys.length = 3 by omega]
 rfl
theorem TS.more {B : Nat} {w : World} {v3 v4 : Value} {T : Tab} {rv : List Value} (h : TS B w v3 v4 T rv) {c : List Cell} {k : Nat} {t : Line} (hr : T.row = c ++ [(k, t)]) :
  ∃ g cap, v4 = .slice (some ⟨g, 0, none⟩) (c.length + 1) cap ∧ B ≤ g ∧ g < w.heap.size ∧ w.cell? ⟨g, c.length * 5 + 2, none⟩ = some (.string ⟨t.toArray⟩) ∧ w.frozen? ⟨g, c.length * 5 + 2, none⟩ = false ∧
   ∀ l, TS B (w.setCell ⟨g, c.length * 5 + 2, none⟩ (.string ⟨(t ++ [10] ++ l).toArray⟩)) v3 v4 ⟨T.rows, c ++ [(k, t ++ [10] ++ l)]⟩ rv := by
 obtain ⟨xs, h1, h2⟩ := h.cur
 have h2 : xs = cvs T.row := h2
 subst h2
 rw [hr] at h1
 have hl : celS.len (c ++ [(k, t)]) = c.length + 1 := by show (c ++ [(k, t)]).length = _; simp
 rw [hl] at h1
 obtain ⟨g, cap, rfl, hg, hB, hlt, hc, hf⟩ := own_block h1 (Nat.succ_pos _)
 have hcl := cvs_len c
 refine ⟨g, cap, rfl, hB, hlt, hc _ _ ?_, hf _, fun l => ?_⟩
 ·rw [cvs_app, ← hcl, List.getElem?_append_right (by omega), show (cvs c).length + 2 - (cvs c).length = 2 by omega]
  rfl
 ·have hs := own_set h1 hg (c.length * 5 + 2) (.string ⟨(t ++ [10] ++ l).toArray⟩) (by show _ < (c.length + 1) * 5; omega)
  have hk : ∀ u, Dj (Value.slice (some ⟨g, 0, none⟩) (c.length + 1) cap) u → ∀ k, u.ownBlock = some k → (w.setCell ⟨g, c.length * 5 + 2, none⟩ (.string ⟨(t ++ [10] ++ l).toArray⟩)).heap[k]? = w.heap[k]? := fun u hd k hu =>
   Below.heap_setCell _ _ _ _ (fun e => hd g rfl (by have e : k = g := e; rw [← e]; exact hu))
  refine ⟨h.rows.keep (hk _ h.d.symm), ?_, h.len, fun i u x hi hx => (h.each i u x hi hx).keep (hk _ (h.dr u (List.mem_of_getElem? hi)).2), h.d, h.dr, h.pw⟩
  refine ⟨_, ?_, rfl⟩
  have hl2 : celS.len (c ++ [(k, t ++ [10] ++ l)]) = c.length + 1 := by show (c ++ [(k, t ++ [10] ++ l)]).length = _; simp
  show World.ownsRow _ _ _ _ _ (celS.len (c ++ [(k, t ++ [10] ++ l)])) _
  rw [hl2]
  have e : (cvs (c ++ [(k, t)])).set (c.length * 5 + 2) (.string ⟨(t ++ [10] ++ l).toArray⟩) = cvs (c ++ [(k, t ++ [10] ++ l)]) := by
   rw [cvs_app, cvs_app, ← hcl]
   exact set_third _ _ _ _ _ _ _ _
  rw [← e]
  exact hs
end Go.Proofs.YthieinfonomeeaaGreatDoor
namespace Go.Proofs.YthieinfonomeeaaGreatDoor
open Go.RowKit Doc Tit Inl Blk
set_option linter.unusedVariables false
structure RApart (B B2 g7 : Nat) (v62 : Value) (vs : List Value) (A : List (List Cell)) : Prop where
 len : vs.length = A.length
 pw : vs.Pairwise Dj
 dr : ∀ u ∈ vs, Dj v62 u
 lt : ∀ u ∈ vs, ∀ k, u.ownBlock = some k → B ≤ k ∧ k < B2 ∧ k ≠ g7
 lt62 : ∀ k, v62.ownBlock = some k → B ≤ k ∧ k < B2 ∧ k ≠ g7
 b7 : B ≤ g7
 l7 : g7 < B2
def qR (vs : List Value) (i k : Nat) : Prop := ∃ (j : Nat) (u : Value), j < i ∧ vs[j]? = some u ∧ u.ownBlock = some k
structure RRead (B B2 g7 : Nat) (w : World) (v62 kv : Value) (vs : List Value) (A : List (List Cell)) (i : Nat) (D : Bls) : Prop where
 rows : RO B w v62 vs
 each : ∀ (j : Nat) (u : Value) (c : List Cell), i ≤ j → vs[j]? = some u → A[j]? = some c → CO B w u c
 kn : Known w g7 44 #[.int .i64 7, .int .i64 0, .string ⟨#[]⟩, .slice none 0 0, kv]
 kids : blsS.own 44 (qR vs i) B2 w kv D
theorem own_mono {α : Type} {S : Shp α} {e : TypeId} {q q' : Nat → Prop} {B : Nat} {w : World} {v : Value} {L : α} (h : S.own e q B w v L) (hq : ∀ k, q k → q' k) : S.own e q' B w v L := by
 obtain ⟨xs, h1, h2⟩ := h
 exact ⟨xs, h1, S.on (Kept.mono fun k hk _ => ⟨hk.1.imp (hq k) id, hk.2⟩) h2⟩
theorem qR_mono {vs : List Value} {i k : Nat} (h : qR vs i k) : qR vs (i + 1) k := by
 obtain ⟨j, u, h1, h2⟩ := h
 exact ⟨j, u, Nat.lt_succ_of_lt h1, h2⟩
theorem qR_lt {B B2 g7 : Nat} {v62 : Value} {vs : List Value} {A : List (List Cell)} (h : RApart B B2 g7 v62 vs A) {i k : Nat} (hk : qR vs i k) : k < B2 ∧ k ≠ g7 := by
 obtain ⟨j, u, _, h2, h3⟩ := hk
 have := h.lt u (List.mem_of_getElem? h2) k h3
 exact this.2
theorem qR_ne {B B2 g7 : Nat} {v62 : Value} {vs : List Value} {A : List (List Cell)} (h : RApart B B2 g7 v62 vs A) {i k g : Nat} {u : Value} (hu : vs[i]? = some u) (hg : u.ownBlock = some g) (hk : qR vs i k) : k ≠ g := by
 rintro rfl
 obtain ⟨j, x, h1, h2, h3⟩ := hk
 have hi := (List.getElem?_eq_some_iff.1 hu)
 have hj := (List.getElem?_eq_some_iff.1 h2)
 have := List.pairwise_iff_getElem.1 h.pw j i hj.1 hi.1 h1
 rw [hj.2, hi.2] at this
 exact this k h3 hg
theorem RO.at {B g N cap : Nat} {w : World} {vs : List Value} (h : RO B w (.slice (some ⟨g, 0, none⟩) N cap) vs) {j : Nat} {u : Value} (hj : vs[j]? = some u) : w.cell? ⟨g, j, none⟩ = some u := by
 obtain ⟨xs, h1, h2, h3⟩ := h
 subst h2
 have := own_at h1 (g := g) rfl j u hj
 rwa [Nat.zero_add] at this
theorem RO.block {B : Nat} {w : World} {v : Value} {l : List Value} (h : RO B w v l) (hl : 0 < l.length) : ∃ g cap, v = .slice (some ⟨g, 0, none⟩) l.length cap ∧ g < w.heap.size := by
 obtain ⟨xs, h1, h2⟩ := h
 obtain ⟨g, cap, h3, h4, h5, h6, _⟩ := own_block h1 hl
 exact ⟨g, cap, h3, h6⟩
theorem CO.block {B : Nat} {w : World} {u : Value} {c : List Cell} (h : CO B w u c) (hc : 0 < c.length) : ∃ g cap, u = .slice (some ⟨g, 0, none⟩) c.length cap ∧ B ≤ g ∧ g < w.heap.size ∧ w.ownsRow B 44 5 (.slice (some ⟨g, 0, none⟩) c.length cap) c.length (cvs c) := by
 obtain ⟨xs, h1, h2⟩ := h
 have h2 : xs = cvs c := h2
 subst h2
 have h1 : w.ownsRow B 44 5 u c.length (cvs c) := h1
 obtain ⟨g, cap, rfl, hg, hB, hlt, hcc, hf⟩ := own_block h1 hc
 exact ⟨g, cap, rfl, hB, hlt, h1⟩
theorem row_at {B g m cap j k : Nat} {t : Line} {w : World} {ys : List Value} {c : List Cell} (h : w.ownsRow B 44 5 (.slice (some ⟨g, 0, none⟩) m cap) m (ys ++ cvs (c.drop j))) (hy : ys.length = j * 5) (hj : c[j]? = some (k, t)) (hm : 0 < m) :
  w.cell? ⟨g, j * 5, none⟩ = some (.int .i64 9) ∧ w.cell? ⟨g, j * 5 + 1, none⟩ = some (.int .i64 k) ∧ w.cell? ⟨g, j * 5 + 2, none⟩ = some (.string ⟨t.toArray⟩) ∧ w.cell? ⟨g, j * 5 + 3, none⟩ = some (.slice none 0 0) ∧ w.cell? ⟨g, j * 5 + 4, none⟩ = some (.slice none 0 0) ∧
  (∀ i, w.frozen? ⟨g, i, none⟩ = false) ∧ c.drop j = (k, t) :: c.drop (j + 1) := by
 have hl := (List.getElem?_eq_some_iff.1 hj)
 have hd : c.drop j = (k, t) :: c.drop (j + 1) := by rw [List.drop_eq_getElem_cons hl.1, hl.2]
 obtain ⟨g', cap', he, hg, hB, hlt, hcc, hf⟩ := own_block h hm
 injection he with e1 e2 e3
 injection e1 with e1
 injection e1 with e1
 subst e1
 rw [hd] at hcc
 have key : ∀ i u, (cvs ((k, t) :: c.drop (j + 1)))[i]? = some u → w.cell? ⟨g, j * 5 + i, none⟩ = some u := fun i u hi => hcc _ _ (by
  rw [List.getElem?_append_right (by omega), hy, show j * 5 + i - j * 5 = i by omega]; exact hi)
 exact ⟨key 0 _ rfl, key 1 _ rfl, key 2 _ rfl, key 3 _ rfl, key 4 _ rfl, hf, hd⟩
theorem row_done {B g m cap j k S0 : Nat} {t : Line} {w : World} {ys : List Value} {c : List Cell} {iv : Value} (h : w.ownsRow B 44 5 (.slice (some ⟨g, 0, none⟩) m cap) m (ys ++ cvs (c.drop j))) (hj : c[j]? = some (k, t)) (hjm : j < m)
  (hg : g < S0) (he : BEnc (fun b => S0 ≤ b) w (cellsB (c.take j)) ys) (hi : insS.sl (fun b => S0 ≤ b) w iv (read (trimW ws4 t))) (hjc : j ≤ c.length) :
  ∃ ys', ((w.setCell ⟨g, j * 5 + 2, none⟩ (.string ⟨#[]⟩)).setCell ⟨g, j * 5 + 3, none⟩ iv).ownsRow B 44 5 (.slice (some ⟨g, 0, none⟩) m cap) m (ys' ++ cvs (c.drop (j + 1))) ∧
   BEnc (fun b => S0 ≤ b) ((w.setCell ⟨g, j * 5 + 2, none⟩ (.string ⟨#[]⟩)).setCell ⟨g, j * 5 + 3, none⟩ iv) (cellsB (c.take (j + 1))) ys' := by
 have hyl : ys.length = j * 5 := by
  have := BEnc.length he
  rw [cellsB_len, List.length_take] at this
  rw [this, Nat.min_eq_left hjc]
 obtain ⟨_, _, _, _, _, _, hd⟩ := row_at h hyl hj (by omega)
 have h1 := own_set (own_set h (g := g) rfl (j * 5 + 2) (.string ⟨#[]⟩) (by omega)) (g := g) rfl (j * 5 + 3) iv (by omega)
 have e : ((ys ++ cvs (c.drop j)).set (j * 5 + 2) (.string ⟨#[]⟩)).set (j * 5 + 3) iv = (ys ++ [.int .i64 9, .int .i64 k, .string ⟨#[]⟩, iv, .slice none 0 0]) ++ cvs (c.drop (j + 1)) := by
  rw [hd, ← hyl]
  show ((ys ++ _ :: _ :: _ :: _ :: _ :: _).set _ _).set _ _ = _
  rw [set_third, set_fourth]
  simp
 rw [e] at h1
 refine ⟨_, h1, ?_⟩
 have hk : Kept (fun b => S0 ≤ b) (fun b => S0 ≤ b) w ((w.setCell ⟨g, j * 5 + 2, none⟩ (.string ⟨#[]⟩)).setCell ⟨g, j * 5 + 3, none⟩ iv) :=
  (Kept.put (fun b hb => by omega) _ _).trans (Kept.put (fun b hb => by omega) _ _)
 have htk : c.take (j + 1) = c.take j ++ [(k, t)] := by rw [List.take_add_one, hj]; rfl
 rw [htk, cellsB_app]
 refine BEnc.app (BEnc.on hk he) ⟨iv, .slice none 0 0, [], rfl, ?_, Sl.empty, rfl⟩
 exact insS.sl_on hi hk
theorem RRead.skip {B B2 g7 : Nat} {w : World} {v62 kv : Value} {vs : List Value} {A : List (List Cell)} {i : Nat} {D : Bls} (h : RRead B B2 g7 w v62 kv vs A i D) : RRead B B2 g7 w v62 kv vs A (i + 1) D :=
 ⟨h.rows, fun j u c hj => h.each j u c (by omega), h.kn, own_mono h.kids fun k => qR_mono⟩
def Oth (g S0 : Nat) (w w' : World) : Prop := S0 ≤ w'.heap.size ∧ ∀ k, k < S0 → k ≠ g → w'.heap[k]? = w.heap[k]?
theorem Oth.below {g S0 : Nat} {w w' w'' : World} (h : Oth g S0 w w') (hb : Below w'.heap.size w' w'') : Oth g S0 w w'' :=
 ⟨Nat.le_trans h.1 hb.size, fun k hk hg => (hb.block k (Nat.lt_of_lt_of_le hk h.1)).trans (h.2 k hk hg)⟩
theorem Oth.set {g S0 : Nat} {w w' : World} (h : Oth g S0 w w') (i : Nat) (u : Value) : Oth g S0 w (w'.setCell ⟨g, i, none⟩ u) :=
 ⟨by rw [World.size_setCell]; exact h.1, fun k hk hg => (Below.heap_setCell _ _ _ _ hg).trans (h.2 k hk hg)⟩
theorem row_ready {B B2 g7 g m cap S0 i : Nat} {wr w : World} {v62 kv : Value} {vs : List Value} {A : List (List Cell)} {D : Bls} {c : List Cell} {ys : List Value} (hS : RApart B B2 g7 v62 vs A) (hD : RRead B B2 g7 wr v62 kv vs A i D) (hw : S0 = wr.heap.size) (hB2 : B2 ≤ S0)
  (hu : vs[i]? = some (.slice (some ⟨g, 0, none⟩) m cap)) (hm : m = c.length) (ho : Oth g S0 wr w) (hrow : w.ownsRow B 44 5 (.slice (some ⟨g, 0, none⟩) m cap) m (ys ++ cvs (c.drop m))) (he : BEnc (fun b => S0 ≤ b) w (cellsB (c.take m)) ys) :
  Known w g7 44 #[.int .i64 7, .int .i64 0, .string ⟨#[]⟩, .slice none 0 0, kv] ∧
  blsS.own 44 (qR vs (i + 1)) B2 (w.alloc (.cells #[.int .i64 8, .int .i64 0, .string ⟨#[]⟩, .slice none 0 0, .slice (some ⟨g, 0, none⟩) m cap] 44)) kv D ∧
  blsS.src (Shp.kind (qR vs (i + 1)) B2 kv) (w.alloc (.cells #[.int .i64 8, .int .i64 0, .string ⟨#[]⟩, .slice none 0 0, .slice (some ⟨g, 0, none⟩) m cap] 44)) (.slice (some ⟨w.heap.size, 0, none⟩) 1 1) (.cons 8 0 ⟨#[]⟩ .nil (cellsB c) .nil) ∧
  B2 ≤ (w.alloc (.cells #[.int .i64 8, .int .i64 0, .string ⟨#[]⟩, .slice none 0 0, .slice (some ⟨g, 0, none⟩) m cap] 44)).heap.size ∧
  (∀ k, kv.ownBlock = some k → k ≠ g7 ∧ B2 ≤ k) := by
 subst hw
 have hgl := hS.lt _ (List.mem_of_getElem? hu) g rfl
 have hkl := hD.kids.lt
 rw [hm, List.drop_length, List.take_length] at *
 have e0 : cvs [] = [] := rfl
 rw [e0, List.append_nil] at hrow
 have hk7 : Known w g7 44 #[.int .i64 7, .int .i64 0, .string ⟨#[]⟩, .slice none 0 0, kv] := (ho.2 g7 (Nat.lt_of_lt_of_le hS.l7 hB2) (Ne.symm hgl.2.2)).trans hD.kn
 have hkd : Kept (Shp.kind (qR vs i) B2 kv) (Shp.kind (qR vs (i + 1)) B2 kv) wr w := fun k hk hl => by
  refine ⟨⟨hk.1.imp qR_mono id, hk.2⟩, ho.2 k hl ?_⟩
  rcases hk.1 with h | h
  ·exact qR_ne hS hu rfl h
  ·omega
 have hown : blsS.own 44 (qR vs (i + 1)) B2 w kv D := by
  obtain ⟨xs, h1, h2⟩ := hD.kids
  exact ⟨xs, own_on h1 (fun k hk => ho.2 k (hkl k hk).2 (by have := (hkl k hk).1; omega)), blsS.on hkd h2⟩
 refine ⟨hk7, hown.below (below_new0 w _), src_bls Sl.empty ?_, by rw [World.size_alloc]; have := ho.1; omega, fun k hk => ⟨by have := (hkl k hk).1; have := hS.l7; omega, (hkl k hk).1⟩⟩
 show Sl _ w (cellsB c).len (BEnc _ w (cellsB c)) _
 rw [cellsB_len]
 have hk2 : Kept (fun b => wr.heap.size ≤ b) (Shp.kind (qR vs (i + 1)) B2 kv) w w := Kept.mono fun k hk _ => ⟨.inr (by omega), fun e => by have := (hkl k e).2; omega⟩
 refine Sl.of_own hrow (BEnc.on hk2 he) fun k hk => ?_
 injection hk with hk
 have hk : g = k := hk
 subst hk
 exact ⟨.inl ⟨i, _, Nat.lt_succ_self _, hu, rfl⟩, fun e => by have := (hkl g e).1; omega⟩
theorem RRead.next {B B2 g7 g m cap S0 i : Nat} {wr w w6 : World} {v62 kv v6 : Value} {vs : List Value} {A : List (List Cell)} {D D' : Bls} {o : Obj} (hS : RApart B B2 g7 v62 vs A) (hD : RRead B B2 g7 wr v62 kv vs A i D) (hw : S0 = wr.heap.size) (hB2 : B2 ≤ S0)
  (hu : vs[i]? = some (.slice (some ⟨g, 0, none⟩) m cap)) (ho : Oth g S0 wr w) (hO : blsS.own 44 (qR vs (i + 1)) B2 w6 v6 D') (hg : (w.alloc o).grownBy w6 kv.ownBlock) (h7 : Known w6 g7 44 #[.int .i64 7, .int .i64 0, .string ⟨#[]⟩, .slice none 0 0, kv]) :
  RRead B B2 g7 (w6.setCell ⟨g7, 4, none⟩ v6) v62 v6 vs A (i + 1) D' := by
 subst hw
 have hkl := hD.kids.lt
 have hgl := hS.lt _ (List.mem_of_getElem? hu) g rfl
 have hk : ∀ k, k < B2 → k ≠ g → k ≠ g7 → (w6.setCell ⟨g7, 4, none⟩ v6).heap[k]? = wr.heap[k]? := fun k h1 h2 h3 => by
  have h4 : k < w.heap.size := by have := ho.1; omega
  rw [Below.heap_setCell _ _ _ _ (show k ≠ (⟨g7, 4, none⟩ : Addr).block from h3), hg.block k (by rw [World.size_alloc]; omega) (fun e => by have := (hkl k e.symm).1; omega), Below.heap_alloc w o k h4]
  exact ho.2 k (by omega) h2
 refine ⟨hD.rows.keep fun k h => ?_, fun j u c hj hu' hc => (hD.each j u c (by omega) hu' hc).keep fun k h => ?_, h7.put 4 v6, ?_⟩
 ·have h1 := hS.lt62 k h
  refine hk k h1.2.1 ?_ h1.2.2
  rintro rfl
  exact hS.dr _ (List.mem_of_getElem? hu) k h rfl
 ·have h1 := hS.lt u (List.mem_of_getElem? hu') k h
  refine hk k h1.2.1 ?_ h1.2.2
  rintro rfl
  have hi := (List.getElem?_eq_some_iff.1 hu)
  have hj2 := (List.getElem?_eq_some_iff.1 hu')
  have := List.pairwise_iff_getElem.1 hS.pw i j hi.1 hj2.1 (by omega)
  rw [hi.2, hj2.2] at this
  exact this k rfl h
 ·have hl6 := hO.lt
  obtain ⟨xs, h1, h2⟩ := hO
  have hne : ∀ k, Shp.kind (qR vs (i + 1)) B2 v6 k → k ≠ g7 := fun k hk => by
   rcases hk.1 with h | h
   ·exact (qR_lt hS h).2
   ·have := hS.l7; omega
  exact ⟨xs, own_on h1 (fun k hk => Below.heap_setCell _ _ _ _ (show k ≠ (⟨g7, 4, none⟩ : Addr).block from by have := (hl6 k hk).1; have := hS.l7; show k ≠ g7; omega)), blsS.on (Kept.put hne 4 v6) h2⟩
end Go.Proofs.YthieinfonomeeaaGreatDoor
namespace Go.Proofs.YthieinfonomeeaaGreatDoor
open Go.RowKit Doc Tit Inl Blk
set_option linter.unusedVariables false
attribute [local go_sem ↓] Go.wp_at_zero Go.wp_at_succ
theorem hp_size {s : ByteArray} {a : UInt8} (h : Lib.hasPrefix s.data.toList [a] = true) : 1 ≤ s.size := by
 have hz : s.data.toList.length = s.size := by simp
 cases hl : s.data.toList with
 | nil => rw [hl] at h; cases h
 | cons x r => rw [hl] at hz; simp at hz; omega
theorem tabStep_more (T : Tab) (x : Line) (h1 : Lib.hasPrefix x [124, 45] = false) (h2 : Lib.hasPrefix x [124] = false) (h3 : Lib.hasPrefix x [33] = false) : tabStep T x = ⟨T.rows, moreT x T.row⟩ := by
 simp [tabStep, h1, h2, h3]
theorem snoc_of {α : Type} (l : List α) (h : 0 < l.length) : ∃ c x, l = c ++ [x] := by
 have hne : l ≠ [] := by rintro rfl; cases h
 exact ⟨l.dropLast, l.getLast hne, (List.dropLast_concat_getLast hne).symm⟩
set_option maxRecDepth 20000 in
set_option maxHeartbeats 4000000 in
theorem ptable_any (l : List ByteArray) (p : Option Addr) (c : Nat) (w : World) (hm : MX w) (ht : Blk.tot (bl l) ≤ 10000000) (hv : SL w p c l) :
  Calls Tryz.prog 61 #[.slice p l.length c] w fun e w' => ∃ p' c', e = .returned (.agg #[.int .i64 7, .int .i64 0, .string ⟨#[]⟩, .slice none 0 0, .slice p' (rowsB (tabOf (bl l))).len c']) ∧
   blsS.sl (fun k => w.heap.size ≤ k) w' (.slice p' (rowsB (tabOf (bl l))).len c') (rowsB (tabOf (bl l))) ∧ Below w.heap.size w w' := by
 have hnc := hv.1
 have hsh : Short l := short_tot (by omega)
 have hlen := Blk.len_tot (bl l)
 rw [bl_length] at hlen
 have hin : ∀ j, j < l.length → ∃ s : ByteArray, l[j]? = some s ∧ s.size ≤ 100000000 ∧ ∃ b o, p = some ⟨b, o, none⟩ ∧ b < w.heap.size ∧ w.cell? ⟨b, o + j, none⟩ = some (.string s) := by
  intro j hj
  obtain ⟨s, hs⟩ : ∃ s, l[j]? = some s := ⟨_, List.getElem?_eq_getElem hj⟩
  rcases hv.2.2 with h | ⟨b, o, h2, h3, h4⟩
  ·rw [h] at hj; cases hj
  ·exact ⟨s, hs, hsh s (List.mem_of_getElem? hs), b, o, h2, h3, h4 j s hs⟩
 have htb : ∀ j, TB 10000000 (((bl l).take j).foldl tabStep ⟨[], []⟩) := fun j => by
  obtain ⟨h1, h2, h3⟩ := tb_all ((bl l).take j)
  have h4 := Blk.tot_take j (bl l)
  exact ⟨by omega, fun c hc => by have := h2 c hc; omega, by omega⟩
 have hst : ∀ j s, l[j]? = some s → ((bl l).take (j + 1)).foldl tabStep ⟨[], []⟩ = tabStep (((bl l).take j).foldl tabStep ⟨[], []⟩) s.data.toList := fun j s hs => by
  have h1 : (bl l)[j]? = some s.data.toList := by simp [bl, hs]
  rw [List.take_add_one, h1, List.foldl_append]
  rfl
 have hfin : ((bl l).take l.length).foldl tabStep ⟨[], []⟩ = (bl l).foldl tabStep ⟨[], []⟩ := by rw [List.take_of_length_le (by rw [bl_length]; exact Nat.le_refl _)]
 obtain ⟨FT, hFT⟩ : ∃ FT : Nat → Tab, FT = fun j => ((bl l).take j).foldl tabStep ⟨[], []⟩ := ⟨_, rfl⟩
 have hF0 : FT 0 = ⟨[], []⟩ := by rw [hFT]; simp
 have hFF : ∀ j, ((bl l).take j).foldl tabStep ⟨[], []⟩ = FT j := fun j => by rw [hFT]
 have hall : tabOf (bl l) = (FT l.length).rows ++ [(FT l.length).row] := by
  rw [← hFF, hfin]; rfl
 rw [hall]
 obtain ⟨AA, hAA⟩ : ∃ AA, AA = (FT l.length).rows ++ [(FT l.length).row] := ⟨_, rfl⟩
 rw [← hAA]
 simp only [hFF] at htb hst
 obtain ⟨n, hnn⟩ : ∃ n, n = l.length := ⟨_, rfl⟩
 rw [← hnn] at hlen hnc hin hAA ⊢
 have HAA := Lib.hid hAA
 have hn1 : n ≤ 10000000 := by omega
 have HIN := Lib.hid hin
 have HTB := Lib.hid htb
 have HST := Lib.hid hst
 have HMX := Lib.hid hm
 have K0 := Known.made w 44 #[.int .i64 0, .int .i64 0, .string ⟨#[]⟩, .slice none 0 0, .slice none 0 0]
 have HK0 := Lib.hid K0
 clear hin hnn hAA hv hFT hFF hfin K0 hsh htb hst hall hm ht hlen
 go_enter Tryz.func61, Tryz.ntmps61
 go_wp2_with fail
 refine name_wb ?_
 intro W0 hW0
 have hsz0 : W0.heap.size = w.heap.size + 1 := by rw [hW0]; simp
 have hb0 : Below w.heap.size w W0 := by rw [hW0]; exact below_new0 _ _
 have hk0 : Known W0 w.heap.size 44 #[.int .i64 0, .int .i64 0, .string ⟨#[]⟩, .slice none 0 0, .slice none 0 0] := by rw [hW0]; exact HK0.out
 have HB0 := Lib.hid hb0
 have HK := Lib.hid hk0
 clear hW0 hb0 hk0 HK0
 go_loopg [3, 4, 14] (n + 1) (fun g s3 s4 s14 wr => ∃ (j : Nat) (rv : List Value), s14 = .int .i64 j ∧ j ≤ n ∧ n < j + g ∧ Below W0.heap.size W0 wr ∧ TS W0.heap.size wr s3 s4 (FT j) rv)
 case atStart => exact ⟨0, [], rfl, by omega, by omega, Below.refl _ _, by rw [hF0]; exact TS.start _ _⟩
 case round =>
  obtain ⟨j, rv, rfl, hj, hg, hb, hT⟩ := hrel
  have hz := hb.size
  by_cases hjn : j < n
  ·obtain ⟨s, hs1, hs2, b, o, rfl, hbl, hs3⟩ := HIN.out j hjn
   have g1 : decide (j < n) = true := decide_eq_true hjn
   have hbW : Below w.heap.size w wr := below_then HB0.out hb
   have d1 := (hbW.cell (p := ⟨b, o + j, none⟩) hbl).trans hs3
   have hbw : b < wr.heap.size := by omega
   have hmr : MX wr := HMX.out.below hbW
   have hstp := HST.out j s hs1
   obtain ⟨htb1, -, htb3⟩ := HTB.out j
   have hP2 := fun W => Tryz.strings_HasPrefix s ⟨#[124, 45]⟩ W
   have hP1 := fun W => Tryz.strings_HasPrefix s ⟨#[124]⟩ W
   have hP3 := fun W => Tryz.strings_HasPrefix s ⟨#[33]⟩ W
   have ep2 : (⟨#[124, 45]⟩ : ByteArray).data.toList = [124, 45] := rfl
   have ep1 : (⟨#[124]⟩ : ByteArray).data.toList = [124] := rfl
   have ep3 : (⟨#[33]⟩ : ByteArray).data.toList = [33] := rfl
   rw [ep2] at hP2
   rw [ep1] at hP1
   rw [ep3] at hP3
   have HB := Lib.hid hb
   have HMR := Lib.hid hmr
   have hRC : (FT j).row.length ≤ 10000000 := Nat.le_trans (rt_len _) htb1
   have hRR : rv.length ≤ 10000000 := by rw [hT.len]; exact htb3
   cases h2 : Lib.hasPrefix s.data.toList [124, 45] with
   | true =>
     rw [h2] at hP2
     have e : tabStep (FT j) s.data.toList = ⟨(FT j).rows ++ [(FT j).row], []⟩ := by unfold tabStep; rw [if_pos h2]
     rw [e] at hstp
     have hO1 := hT.cur.one
     obtain ⟨p4, c4, h4⟩ := hT.cur.form
     generalize celS.len (FT j).row = n4 at h4
     subst h4
     have hT0 := hT.below (below_new0 wr (.cells #[.slice p4 n4 c4] 23))
     have HP2 := Lib.hid hP2
     have HSTP := Lib.hid hstp
     have HT0 := Lib.hid hT0
     have HO1 := Lib.hid hO1
     have hzW : W0.heap.size ≤ (wr.alloc (.cells #[.slice p4 n4 c4] 23)).heap.size := by rw [World.size_alloc]; omega
     clear hP1 hP2 hP3 ep1 ep2 ep3 hstp e hT hT0 hO1 hs1 hs3 hb hbW hmr h2 htb1 htb3
     go_wp2_with fail
     refine (HP2.out _).mono ?_
     rintro e w2 ⟨rfl, rfl⟩
     go_wp2_with (at_builtin; go_must (refine append_shp rwS tyRw (L := rv) (M := [.slice p4 n4 c4]) _ rfl _ _ rfl HT0.out.rows rfl (src_rw HO1.out) rfl (by show (rv.length + 1) * 25 ≤ _; omega) hzW ?_); intro v' w3 O3 hgrow hbel hkd)
     have hbn := hbel W0 (below_then HB.out (below_new0 _ _))
     have hT2 := HT0.out.fin O3 hkd
     have HT2 := Lib.hid hT2
     clear hgrow hbel hkd hT2
     go_wp2_with fail
     go_roundg (n - j)
     case measure => omega
     case rel => exact ⟨j + 1, rv ++ [.slice p4 n4 c4], by go_num, by omega, by omega, hbn, by rw [HSTP.out]; exact HT2.out⟩
   | false =>
     rw [h2] at hP2
     cases h1 : Lib.hasPrefix s.data.toList [124] with
     | true =>
       rw [h1] at hP1
       have e : tabStep (FT j) s.data.toList = ⟨(FT j).rows, (FT j).row ++ (spl2 124 (s.data.toList.drop 1)).map (fun t => (0, t))⟩ := by unfold tabStep; rw [if_neg (by rw [h2]; decide), if_pos h1]
       rw [e] at hstp
       have hsz1 := hp_size h1
       have hex : s.extract 1 s.size = tl1 s := by
        refine bytes_ext ?_
        rw [Lib.extract_to_end]
        rfl
       have hCE := pcells_any (tl1 s) 124 0 wr hmr (by rw [← hex, ByteArray.size_extract]; omega)
       have hLn : (spl2 124 (tl1 s).data.toList).length ≤ 100000001 := by
        have h5 := Blk.spl2_tot 124 (tl1 s).data.toList
        have h6 := Blk.len_tot (spl2 124 (tl1 s).data.toList)
        have h7 : (tl1 s).data.toList.length = s.data.toList.length - 1 := by simp [tl1]
        have h8 : s.data.toList.length = s.size := by simp
        omega
       have hdr : (tl1 s).data.toList = s.data.toList.drop 1 := by simp [tl1]
       rw [← hdr] at hstp
       obtain ⟨LL, hLL⟩ : ∃ LL, spl2 124 (tl1 s).data.toList = LL := ⟨_, rfl⟩
       rw [hLL] at hCE hLn hstp
       obtain ⟨T1, hT1⟩ : ∃ T1, tl1 s = T1 := ⟨_, rfl⟩
       rw [hT1] at hCE hex
       have HP2 := Lib.hid hP2
       have HP1 := Lib.hid hP1
       have HP3 := Lib.hid hP3
       have HCE := Lib.hid hCE
       have HSTP := Lib.hid hstp
       have HT0 := Lib.hid hT
       have hlt4 := hT.cur.lt
       have HLT4 := Lib.hid hlt4
       clear hlt4 hP1 hP2 hP3 ep1 ep2 ep3 hstp e hT hs1 hs3 hb hbW hmr h2 htb1 htb3 hCE hLL hT1 hdr h1
       go_wp2_with fail
       refine (HP2.out _).mono ?_
       rintro e w2 ⟨rfl, hw2⟩
       subst w2
       go_wp2_with fail
       refine (HP1.out _).mono ?_
       rintro e w2 ⟨rfl, hw2⟩
       subst w2
       go_wp2_with fail
       refine HCE.out.mono ?_
       rintro e w3 ⟨p', c', rfl, hsl, hb3⟩
       have hz3 := hb3.size
       have hsr : celS.src (Shp.kind FF W0.heap.size u4) w3 (.slice p' LL.length c') (LL.map fun t => (0, t)) := Shp.src_of (celS.sl_on hsl (Kept.mono fun k hk _ => ⟨.inr (by omega), fun e => by have := (HLT4.out k e).2; omega⟩))
       have hT3 := HT0.out.below hb3
       have HT3 := Lib.hid hT3
       have HSR := Lib.hid hsr
       have HB3 := Lib.hid hb3
       have hzW : W0.heap.size ≤ w3.heap.size := by omega
       have hlm : (LL.map fun t => ((0, t) : Cell)).length = LL.length := List.length_map ..
       clear hsl hb3 hsr hT3
       go_wp2_with (at_builtin; go_must (refine append_shp celS tyBC (L := (FT j).row) (M := LL.map fun t => (0, t)) _ rfl _ _ rfl HT3.out.cur rfl HSR.out rfl (by show ((FT j).row.length + (LL.map fun t => ((0, t) : Cell)).length) * 81 ≤ _; omega) hzW ?_); intro v' w4 O4 hgrow hbel hkd)
       have hbn := hbel W0 (HB.out.trans (HB3.out.mono hz))
       have hT4 := HT3.out.app O4 hkd
       have HT4 := Lib.hid hT4
       clear hgrow hbel hkd hT4
       go_wp2_with fail
       go_roundg (n - j)
       case measure => omega
       case rel => exact ⟨j + 1, rv, by go_num, by omega, by omega, hbn, by rw [HSTP.out]; exact HT4.out⟩
     | false =>
       rw [h1] at hP1
       cases h3 : Lib.hasPrefix s.data.toList [33] with
       | true =>
         rw [h3] at hP3
         have e : tabStep (FT j) s.data.toList = ⟨(FT j).rows, (FT j).row ++ (spl2 33 (s.data.toList.drop 1)).map (fun t => (1, t))⟩ := by unfold tabStep; rw [if_neg (by rw [h2]; decide), if_neg (by rw [h1]; decide), if_pos h3]
         rw [e] at hstp
         have hsz1 := hp_size h3
         have hex : s.extract 1 s.size = tl1 s := by
          refine bytes_ext ?_
          rw [Lib.extract_to_end]
          rfl
         have hCE := pcells_any (tl1 s) 33 1 wr hmr (by rw [← hex, ByteArray.size_extract]; omega)
         have hLn : (spl2 33 (tl1 s).data.toList).length ≤ 100000001 := by
          have h5 := Blk.spl2_tot 33 (tl1 s).data.toList
          have h6 := Blk.len_tot (spl2 33 (tl1 s).data.toList)
          have h7 : (tl1 s).data.toList.length = s.data.toList.length - 1 := by simp [tl1]
          have h8 : s.data.toList.length = s.size := by simp
          omega
         have hdr : (tl1 s).data.toList = s.data.toList.drop 1 := by simp [tl1]
         rw [← hdr] at hstp
         obtain ⟨LL, hLL⟩ : ∃ LL, spl2 33 (tl1 s).data.toList = LL := ⟨_, rfl⟩
         rw [hLL] at hCE hLn hstp
         obtain ⟨T1, hT1⟩ : ∃ T1, tl1 s = T1 := ⟨_, rfl⟩
         rw [hT1] at hCE hex
         have HP2 := Lib.hid hP2
         have HP1 := Lib.hid hP1
         have HP3 := Lib.hid hP3
         have HCE := Lib.hid hCE
         have HSTP := Lib.hid hstp
         have HT0 := Lib.hid hT
         have hlt4 := hT.cur.lt
         have HLT4 := Lib.hid hlt4
         clear hlt4 hP1 hP2 hP3 ep1 ep2 ep3 hstp e hT hs1 hs3 hb hbW hmr h2 htb1 htb3 hCE hLL hT1 hdr h1 h3
         go_wp2_with fail
         refine (HP2.out _).mono ?_
         rintro e w2 ⟨rfl, hw2⟩
         subst w2
         go_wp2_with fail
         refine (HP1.out _).mono ?_
         rintro e w2 ⟨rfl, hw2⟩
         subst w2
         go_wp2_with fail
         refine (HP3.out _).mono ?_
         rintro e w2 ⟨rfl, hw2⟩
         subst w2
         go_wp2_with fail
         refine HCE.out.mono ?_
         rintro e w3 ⟨p', c', rfl, hsl, hb3⟩
         have hz3 := hb3.size
         have hsr : celS.src (Shp.kind FF W0.heap.size u4) w3 (.slice p' LL.length c') (LL.map fun t => (1, t)) := Shp.src_of (celS.sl_on hsl (Kept.mono fun k hk _ => ⟨.inr (by omega), fun e => by have := (HLT4.out k e).2; omega⟩))
         have hT3 := HT0.out.below hb3
         have HT3 := Lib.hid hT3
         have HSR := Lib.hid hsr
         have HB3 := Lib.hid hb3
         have hzW : W0.heap.size ≤ w3.heap.size := by omega
         have hlm : (LL.map fun t => ((1, t) : Cell)).length = LL.length := List.length_map ..
         clear hsl hb3 hsr hT3
         go_wp2_with (at_builtin; go_must (refine append_shp celS tyBC (L := (FT j).row) (M := LL.map fun t => (1, t)) _ rfl _ _ rfl HT3.out.cur rfl HSR.out rfl (by show ((FT j).row.length + (LL.map fun t => ((1, t) : Cell)).length) * 81 ≤ _; omega) hzW ?_); intro v' w4 O4 hgrow hbel hkd)
         have hbn := hbel W0 (HB.out.trans (HB3.out.mono hz))
         have hT4 := HT3.out.app O4 hkd
         have HT4 := Lib.hid hT4
         clear hgrow hbel hkd hT4
         go_wp2_with fail
         go_roundg (n - j)
         case measure => omega
         case rel => exact ⟨j + 1, rv, by go_num, by omega, by omega, hbn, by rw [HSTP.out]; exact HT4.out⟩
       | false =>
         rw [h3] at hP3
         rw [tabStep_more _ _ h2 h1 h3] at hstp
         have HP2 := Lib.hid hP2
         have HP1 := Lib.hid hP1
         have HP3 := Lib.hid hP3
         by_cases hr0 : (FT j).row.length = 0
         ·have hr1 : (FT j).row = [] := List.length_eq_zero_iff.1 hr0
          obtain ⟨p4, c4, h4⟩ := hT.cur.form
          have hl4 : celS.len (FT j).row = 0 := hr0
          rw [hl4] at h4
          subst h4
          have hT' : TS W0.heap.size wr u3 (.slice p4 0 c4) (FT (j + 1)) rv := by
           rw [hstp, hr1]
           have e : (⟨(FT j).rows, moreT s.data.toList []⟩ : Tab) = FT j := by
            show (⟨(FT j).rows, []⟩ : Tab) = FT j
            rw [← hr1]
           rw [e]; exact hT
          have HT' := Lib.hid hT'
          clear hT' hP1 hP2 hP3 ep1 ep2 ep3 hstp hT hs1 hs3 hb hbW hmr h2 htb1 htb3 h1 h3 hr1
          go_wp2_with fail
          refine (HP2.out _).mono ?_
          rintro e w2 ⟨rfl, hw2⟩
          subst w2
          go_wp2_with fail
          refine (HP1.out _).mono ?_
          rintro e w2 ⟨rfl, hw2⟩
          subst w2
          go_wp2_with fail
          refine (HP3.out _).mono ?_
          rintro e w2 ⟨rfl, hw2⟩
          subst w2
          go_wp2_with fail
          go_roundg (n - j)
          case measure => omega
          case rel => exact ⟨j + 1, rv, by go_num, by omega, by omega, HB.out, HT'.out⟩
         ·obtain ⟨cc, ⟨k, t⟩, hcc⟩ := snoc_of (FT j).row (by omega)
          obtain ⟨g, cap, rfl, hgB, hgl, hgc, hgf, hset⟩ := hT.more hcc
          have hst2 := hset s.data.toList
          rw [hcc, moreT_snoc] at hstp
          rw [← hstp] at hst2
          have hcl : cc.length + 1 ≤ 10000000 := by rw [hcc, List.length_append] at hRC; simpa using hRC
          have htl : t.length ≤ 10000000 := by
           have h5 := rt_mem (a := (FT j).row) (x := (k, t)) (by rw [hcc]; simp)
           have h6 : t.length + 1 ≤ rt (FT j).row := h5
           omega
          have hjoin : (⟨t.toArray⟩ : ByteArray) ++ (⟨#[10]⟩ ++ s) = ⟨(t ++ [10] ++ s.data.toList).toArray⟩ := by
           refine bytes_ext ?_
           simp
          obtain ⟨TA, hTA⟩ : ∃ TA : ByteArray, ⟨t.toArray⟩ = TA := ⟨_, rfl⟩
          have hTAs : TA.size ≤ 10000000 := by rw [← hTA]; exact htl
          obtain ⟨TN, hTN⟩ : ∃ TN : ByteArray, ⟨(t ++ [10] ++ s.data.toList).toArray⟩ = TN := ⟨_, rfl⟩
          rw [hTA] at hgc hjoin
          rw [hTN] at hst2 hjoin
          have hbs : Below W0.heap.size W0 (wr.setCell ⟨g, cc.length * 5 + 2, none⟩ (.string TN)) := HB.out.setCell hgB _
          have f1 : decide (0 < cc.length + 1) = true := by simp
          have HST2 := Lib.hid hst2
          have HBS := Lib.hid hbs
          have HJ := Lib.hid hjoin
          clear hst2 hbs hset hjoin hTA hTN hcc hP1 hP2 hP3 ep1 ep2 ep3 hstp hT hs1 hs3 hb hbW hmr h2 htb1 htb3 h1 h3 hr0
          go_wp2_with fail
          refine (HP2.out _).mono ?_
          rintro e w2 ⟨rfl, hw2⟩
          subst w2
          go_wp2_with fail
          refine (HP1.out _).mono ?_
          rintro e w2 ⟨rfl, hw2⟩
          subst w2
          go_wp2_with fail
          refine (HP3.out _).mono ?_
          rintro e w2 ⟨rfl, hw2⟩
          subst w2
          go_wp2_with fail
          rw [HJ.out]
          go_roundg (n - j)
          case measure => omega
          case rel => exact ⟨j + 1, rv, by go_num, by omega, by omega, HBS.out, HST2.out⟩
  ·have hjn : j = n := by omega
   subst hjn
   have g1 : decide (j < j) = false := by simp
   have htb := HTB.out j
   obtain ⟨p4, c4, h4⟩ := hT.cur.form
   generalize celS.len (FT j).row = n4 at h4
   subst h4
   have hT1 := (hT.below (below_new0 wr (.cells #[.int .i64 7, .int .i64 0, .string ⟨#[]⟩, .slice none 0 0, .slice none 0 0] 44))).below (below_new0 _ (.cells #[.slice p4 n4 c4] 23))
   have hK1 := (Known.made wr 44 #[.int .i64 7, .int .i64 0, .string ⟨#[]⟩, .slice none 0 0, .slice none 0 0]).alloc (.cells #[.slice p4 n4 c4] 23)
   have hlr := fun u (hu : u ∈ rv) => hT.lt hu
   have hlc := hT.cur.lt
   have hl3 := hT.rows.lt
   have hRR : rv.length ≤ 10000000 := by rw [hT.len]; exact htb.2.2
   have hRl : ∀ c ∈ AA, c.length ≤ 10000000 := fun c hc => Nat.le_trans (rt_len c) (by
    rw [HAA.out] at hc
    rcases List.mem_append.1 hc with hc | hc
    ·exact htb.2.1 c hc
    ·rw [List.mem_singleton.1 hc]; exact htb.1)
   have hRt : ∀ c ∈ AA, ∀ x ∈ c, x.2.length ≤ 10000000 := fun c hc x hx => by
    rw [HAA.out] at hc
    have h5 := rt_mem hx
    rcases List.mem_append.1 hc with hc | hc
    ·have := htb.2.1 c hc; omega
    ·rw [List.mem_singleton.1 hc] at h5; have := htb.1; omega
   have hzW : W0.heap.size ≤ ((wr.alloc (.cells #[.int .i64 7, .int .i64 0, .string ⟨#[]⟩, .slice none 0 0, .slice none 0 0] 44)).alloc (.cells #[.slice p4 n4 c4] 23)).heap.size := by rw [World.size_alloc, World.size_alloc]; omega
   have hsr : rwS.src (Shp.kind FF W0.heap.size u3) ((wr.alloc (.cells #[.int .i64 7, .int .i64 0, .string ⟨#[]⟩, .slice none 0 0, .slice none 0 0] 44)).alloc (.cells #[.slice p4 n4 c4] 23)) (.slice (some ⟨wr.heap.size + 1, 0, none⟩) 1 1) [.slice p4 n4 c4] := by
    have := src_rw (q := Shp.kind FF W0.heap.size u3) (w := wr.alloc (.cells #[.int .i64 7, .int .i64 0, .string ⟨#[]⟩, .slice none 0 0, .slice none 0 0] 44)) (v := .slice p4 n4 c4) (ty := 23) rfl
    rw [World.size_alloc] at this
    exact this
   have HSR := Lib.hid hsr
   obtain ⟨N, hN⟩ : ∃ N, N = (rv ++ [.slice p4 n4 c4] : List Value).length := ⟨_, rfl⟩
   have HN := Lib.hid hN
   have HT1 := Lib.hid hT1
   have HK1 := Lib.hid hK1
   have HLR := Lib.hid hlr
   have HLC := Lib.hid hlc
   have HL3 := Lib.hid hl3
   have HRL := Lib.hid hRl
   have HRT := Lib.hid hRt
   have HB := Lib.hid hb
   clear hN hsr hT hT1 hK1 hlr hlc hl3 hRl hRt hb htb
   go_wp2_with (at_builtin; go_must (refine append_shp rwS tyRw (L := rv) (M := [.slice p4 n4 c4]) _ rfl _ _ rfl HT1.out.rows rfl HSR.out rfl (by show (rv.length + 1) * 25 ≤ _; omega) hzW ?_); intro v' w1 O3 hgrow hbel hkd; obtain ⟨g62, cap62, hv62, hg62⟩ := RO.block (l := rv ++ [.slice p4 n4 c4]) O3 (by simp); rw [← HN.out] at hv62; subst hv62)
   obtain ⟨wo, hwo⟩ : ∃ wo, wo = wr := ⟨_, rfl⟩
   subst hwo
   have hbn := hbel W0 (below_then (below_then HB.out (below_new0 _ _)) (below_new0 _ _))
   have hT5 := HT1.out.fin O3 hkd
   have hz1 := hgrow.size
   rw [World.size_alloc, World.size_alloc] at hz1
   have hne3 : u3.ownBlock ≠ some wo.heap.size := fun e => by have := (HL3.out _ e).2; omega
   have hk7 : Known w1 wo.heap.size 44 #[.int .i64 7, .int .i64 0, .string ⟨#[]⟩, .slice none 0 0, .slice none 0 0] :=
    (hgrow.block _ (by rw [World.size_alloc, World.size_alloc]; omega) (Ne.symm hne3)).trans HK1.out
   have hne7 : (Value.slice (some ⟨g62, 0, none⟩) N cap62).ownBlock ≠ some wo.heap.size := (hkd _ ⟨.inr (by omega), hne3⟩ (by rw [World.size_alloc, World.size_alloc]; omega)).1.2
   have hA : RApart W0.heap.size w1.heap.size wo.heap.size (.slice (some ⟨g62, 0, none⟩) N cap62) (rv ++ [.slice p4 n4 c4]) ((FT j).rows ++ [(FT j).row]) := by
    refine ⟨hT5.len, hT5.pw, fun u hu => (hT5.dr u hu).1, fun u hu k hk => ?_, fun k hk => ⟨(hT5.rows.lt k hk).1, (hT5.rows.lt k hk).2, fun e => hne7 (by rw [← e]; exact hk)⟩, by omega, by omega⟩
    have h1 := hT5.lt hu k hk
    refine ⟨h1.1, h1.2, fun e => ?_⟩
    rcases List.mem_append.1 hu with hu | hu
    ·have := (HLR.out u hu k hk).2; omega
    ·rw [List.mem_singleton.1 hu] at hk; have := (HLC.out k hk).2; omega
   have hD0 : RRead W0.heap.size w1.heap.size wo.heap.size w1 (.slice (some ⟨g62, 0, none⟩) N cap62) (.slice none 0 0) (rv ++ [.slice p4 n4 c4]) ((FT j).rows ++ [(FT j).row]) 0 .nil :=
    ⟨hT5.rows, fun i u cc _ hu hc => hT5.each i u cc hu hc, hk7, Shp.own.nil⟩
   obtain ⟨vs, hvs⟩ : ∃ vs, vs = rv ++ [.slice p4 n4 c4] := ⟨_, rfl⟩
   rw [← hvs] at hA hD0
   have hvl : vs.length = rv.length + 1 := by rw [hvs]; simp
   rw [← HAA.out] at hA hD0
   have hN := HN.out
   rw [← hvs] at hN
   have hNs : N ≤ 10000001 := by omega
   obtain ⟨B2, hB2⟩ : ∃ B2, B2 = w1.heap.size := ⟨_, rfl⟩
   obtain ⟨g7, hg7⟩ : ∃ g7, g7 = wo.heap.size := ⟨_, rfl⟩
   rw [← hB2, ← hg7] at hA hD0
   rw [← hg7]
   rw [← hB2] at hg62
   have hAl : AA.length = N := by rw [hN]; exact hA.len.symm
   have HVS := Lib.hid hN
   have HA := Lib.hid hA
   have HD0 := Lib.hid hD0
   have HBN := Lib.hid hbn
   have HAL := Lib.hid hAl
   have hl62 : g62 < B2 := hg62
   have hl7 := HA.out.l7
   have hb7 := HA.out.b7
   have hW1 : B2 ≤ w1.heap.size := by omega
   clear hB2 hg7 hg62 HN hgrow hbel hkd hT5 O3 hz1 hne3 hk7 hne7 hA hD0 hvs hvl hN hbn hAl HT1 HK1 HLR HLC HL3
   go_wp2_with fail
   go_loopg [64] (N + 1) (fun g s64 wr => ∃ (i : Nat) (D : Bls) (kv : Value), s64 = .int .i64 i ∧ i ≤ N ∧ N < i + g ∧ Below W0.heap.size W0 wr ∧ B2 ≤ wr.heap.size ∧ RRead W0.heap.size B2 g7 wr (.slice (some ⟨g62, 0, none⟩) N cap62) kv vs AA i D ∧ D.app (rowsB (AA.drop i)) = rowsB AA ∧ D.len ≤ i)
   case atStart => exact ⟨0, .nil, .slice none 0 0, rfl, by omega, by omega, HBN.out, hW1, HD0.out, rfl, Nat.le_refl _⟩
   case round =>
    obtain ⟨i, D, kv, rfl, hi, hg, hb, hz2, hD, happ, hDl⟩ := hrel
    by_cases hiN : i < N
    ·obtain ⟨u, hu⟩ : ∃ u, vs[i]? = some u := ⟨_, List.getElem?_eq_getElem (by rw [← HVS.out]; exact hiN)⟩
     obtain ⟨cs, hcs⟩ : ∃ cs, AA[i]? = some cs := ⟨_, List.getElem?_eq_getElem (by rw [HAL.out]; exact hiN)⟩
     have g2 : decide (i < N) = true := decide_eq_true hiN
     have hCO := hD.each i u cs (Nat.le_refl _) hu hcs
     have d1 := hD.rows.at hu
     have hbw : g62 < wr.heap.size := by omega
     have hdrop : AA.drop i = cs :: AA.drop (i + 1) := by
      have hl := List.getElem?_eq_some_iff.1 hcs
      rw [List.drop_eq_getElem_cons hl.1, hl.2]
     rw [hdrop] at happ
     by_cases hc0 : cs.length = 0
     ·have hc1 : cs = [] := List.length_eq_zero_iff.1 hc0
      obtain ⟨p5, c5, h5⟩ := hCO.form
      have h6 : celS.len cs = 0 := hc0
      rw [h6] at h5
      subst h5
      rw [hc1, rowsB, if_pos rfl] at happ
      have HAPP := Lib.hid happ
      have HD := Lib.hid hD
      have HB2 := Lib.hid hb
      clear happ hD hb hCO hdrop hu hcs h6 hc1
      go_wp2_with fail
      go_roundg (N - i)
      case measure => omega
      case rel => exact ⟨i + 1, D, kv, by go_num, by omega, by omega, HB2.out, hz2, HD.out.skip, HAPP.out, by omega⟩
     ·obtain ⟨g, cap, rfl, hgB, hgl, hrow⟩ := hCO.block (by omega)
      rw [rowsB, if_neg (by intro e; rw [e] at hc0; exact hc0 rfl)] at happ
      obtain ⟨m, hm⟩ : ∃ m, m = cs.length := ⟨_, rfl⟩
      rw [← hm] at hrow hu d1 hc0
      have g3 : ((m : Int) == 0) = false := beq_eq_false_iff_ne.2 (by omega)
      have hml : m ≤ 10000000 := by rw [hm]; exact HRL.out cs (List.mem_of_getElem? hcs)
      have hgB2 := (HA.out.lt _ (List.mem_of_getElem? hu) g rfl)
      have hmx : MX wr := HMX.out.below (below_then HB0.out hb)
      have hcst : ∀ x ∈ cs, x.2.length ≤ 10000000 := HRT.out cs (List.mem_of_getElem? hcs)
      have HAPP := Lib.hid happ
      have HD := Lib.hid hD
      have HB2 := Lib.hid hb
      have HU := Lib.hid hu
      have HM := Lib.hid hm
      have HROW := Lib.hid hrow
      have HGB2 := Lib.hid hgB2
      have HMX2 := Lib.hid hmx
      have HCST := Lib.hid hcst
      obtain ⟨wq, hwq⟩ : ∃ wq, wq = wr := ⟨_, rfl⟩
      subst hwq
      have hm0 : 0 < m := by omega
      clear happ hD hb hCO hdrop hu hcs hm hrow hgB2 hmx hcst
      go_wp2_with fail
      go_loopg [73] (m + 1) (fun gg s73 wr => ∃ (jj : Nat) (ys : List Value), s73 = .int .i64 jj ∧ jj ≤ m ∧ m < jj + gg ∧ Below W0.heap.size W0 wr ∧ Oth g wq.heap.size wq wr ∧ wr.ownsRow W0.heap.size 44 5 (.slice (some ⟨g, 0, none⟩) m cap) m (ys ++ cvs (cs.drop jj)) ∧ BEnc (fun b => wq.heap.size ≤ b) wr (cellsB (cs.take jj)) ys)
      case atStart => exact ⟨0, [], rfl, by omega, by omega, HB2.out, ⟨Nat.le_refl _, fun _ _ _ => rfl⟩, HROW.out, rfl⟩
      case round =>
       obtain ⟨jj, ys, rfl, hjj, hgg, hb, hoth, hrow, henc⟩ := hrel
       have hjc : jj ≤ cs.length := by rw [← HM.out]; exact hjj
       by_cases hjm : jj < m
       ·obtain ⟨⟨k, t⟩, hkt⟩ : ∃ x, cs[jj]? = some x := ⟨_, List.getElem?_eq_getElem (by rw [← HM.out]; exact hjm)⟩
        have hyl : ys.length = jj * 5 := by
         have := BEnc.length henc
         rw [cellsB_len, List.length_take] at this
         rw [this, Nat.min_eq_left hjc]
        obtain ⟨x0, x1, x2, x3, x4, hfz, -⟩ := row_at hrow hyl hkt hm0
        have f2 := hfz (jj * 5 + 2)
        have f3 := hfz (jj * 5 + 3)
        have g4 : decide (jj < m) = true := decide_eq_true hjm
        have hglw : g < wr.heap.size := by have := hoth.1; omega
        have htl : t.length ≤ 10000000 := HCST.out (k, t) (List.mem_of_getElem? hkt)
        have HROW2 := Lib.hid hrow
        have HENC := Lib.hid henc
        have HOTH := Lib.hid hoth
        have HB3 := Lib.hid hb
        have HKT := Lib.hid hkt
        obtain ⟨TT, hTT⟩ : ∃ TT : ByteArray, TT = ⟨t.toArray⟩ := ⟨_, rfl⟩
        rw [← hTT] at x2
        have HTT := Lib.hid hTT
        have htd : TT.data.toList = t := by rw [hTT]
        have hTR := fun W => pstrim_any TT W (by rw [hTT]; show t.length ≤ _; omega)
        rw [htd] at hTR
        have hPA := fun W => pparse17_any ⟨(trimW ws4 t).toArray⟩ W (by show (trimW ws4 t).length ≤ _; have := trimW_le ws4 t; omega)
        have eTR : (⟨(trimW ws4 t).toArray⟩ : ByteArray).data.toList = trimW ws4 t := rfl
        rw [eTR] at hPA
        have HTR := Lib.hid hTR
        have HPA := Lib.hid hPA
        have HYL := Lib.hid hyl
        have hbA := below_new0 wr (.cells #[.int .i64 9, .int .i64 (k : Int), .string TT, .slice none 0 0, .slice none 0 0] 44)
        have HBA := Lib.hid hbA
        have hmw := HMX2.out
        have hmr : MX wr := HMX.out.below (below_then HB0.out hb)
        have HMR := Lib.hid hmr
        have hzr : W0.heap.size ≤ wr.heap.size := hb.size
        clear hmw hmr hbA hTR hPA eTR htd hrow henc hoth hb hkt hfz hyl hTT
        go_wp2_with fail
        refine (HTR.out _).mono ?_
        rintro e w4 ⟨rfl, hb4⟩
        have hb4' := below_then HBA.out hb4
        have hm4 := HMR.out.below hb4'
        have HB4 := Lib.hid hb4'
        have HM4 := Lib.hid hm4
        clear hb4 hb4' hm4
        go_wp2_with fail
        refine (HPA.out w4 HM4.out).mono ?_
        rintro e w5 ⟨pI, cI, rfl, hsl, hb5⟩
        have hb6 := below_then HB4.out hb5
        have hrow5 := own_on HROW2.out (fun q hq => hb6.block q (World.ownsRow.lt HROW2.out q hq).2)
        have henc5 := BEnc.on (Kept.below hb6) HENC.out
        have hoth5 := HOTH.out.below hb6
        have hz4 := HB4.out.size
        have hz0 := HOTH.out.1
        have hz6 := hb6.size
        obtain ⟨z0, z1, z2, z3, z4, hfz5, -⟩ := row_at hrow5 HYL.out HKT.out hm0
        have f5 := hfz5 (jj * 5 + 2)
        have f6 := hfz5 (jj * 5 + 3)
        have hgl5 : g < w5.heap.size := by omega
        obtain ⟨ys', hr6, he6⟩ := row_done hrow5 HKT.out hjm hgl henc5 (insS.sl_on hsl (Kept.mono fun b hb _ => by omega)) hjc
        have hoth6 := (hoth5.set (jj * 5 + 2) (.string ⟨#[]⟩)).set (jj * 5 + 3) (.slice pI (read (trimW ws4 t)).len cI)
        have hb7 : Below W0.heap.size W0 ((w5.setCell ⟨g, jj * 5 + 2, none⟩ (.string ⟨#[]⟩)).setCell ⟨g, jj * 5 + 3, none⟩ (.slice pI (read (trimW ws4 t)).len cI)) := ((HB3.out.trans (hb6.mono hzr)).setCell hgB _).setCell hgB _
        have HR6 := Lib.hid hr6
        have HE6 := Lib.hid he6
        have HO6 := Lib.hid hoth6
        have HB7 := Lib.hid hb7
        clear hr6 he6 hoth6 hb7 hfz5 hrow5 henc5 hoth5 hsl hb5 hb6
        go_wp2_with fail
        go_roundg (m - jj)
        case measure => omega
        case rel => exact ⟨jj + 1, ys', by go_num, by omega, by omega, HB7.out, HO6.out, HR6.out, HE6.out⟩
       ·have hjm : jj = m := by omega
        subst hjm
        have g4 : decide (jj < jj) = false := by simp
        obtain ⟨hk7, hown, hsrc, hzB, hkne⟩ := row_ready HA.out HD.out rfl hz2 HU.out HM.out hoth hrow henc
        obtain ⟨x0, x1, x2, x3, x4⟩ := hk7.five
        have hk7l := hk7.lt
        have HK7 := Lib.hid hk7
        have HOWN := Lib.hid hown
        have HSRC := Lib.hid hsrc
        have HKNE := Lib.hid hkne
        have HOTH := Lib.hid hoth
        have HB3 := Lib.hid hb
        clear hk7 hown hsrc hkne hrow henc hoth hb
        go_wp2_with (at_builtin; go_must (refine append_shp blsS tyB (L := D) (M := .cons 8 0 ⟨#[]⟩ .nil (cellsB cs) .nil) _ rfl _ _ rfl HOWN.out rfl HSRC.out rfl (by show (D.len + 1) * 81 ≤ _; omega) hzB ?_); intro v6 w6 O6 hgrow hbel hkd; obtain ⟨p6, c6, hv6⟩ := O6.form; have hk76 : Known w6 g7 _ _ := (hgrow.block g7 (by rw [World.size_alloc]; omega) (fun e => (HKNE.out g7 e.symm).1 rfl)).trans (HK7.out.alloc _); obtain ⟨y0, y1, y2, y3, y4⟩ := hk76.five; have hf4 := hk76.free 4; have hl76 := hk76.lt; have hn6 : blsS.len (blsS.app D (.cons 8 0 ⟨#[]⟩ .nil (cellsB cs) .nil)) = D.len + 1 := Bls.len_app _ _; rw [hn6] at hv6; subst hv6; have HGROW := Lib.hid hgrow; have HBEL := Lib.hid hbel; have HK76 := Lib.hid hk76; have HO6 := Lib.hid O6; clear hgrow hbel hkd hk76 O6 hn6)
        have hbn : Below W0.heap.size W0 (w6.setCell ⟨g7, 4, none⟩ (.slice p6 (D.len + 1) c6)) := ((below_then HB3.out (below_new0 _ _)).grown HGROW.out (Nat.le_trans (by omega) hzB) (fun k e => by have := (HKNE.out k e).2; omega)).setCell hb7 _
        have hRn := RRead.next HA.out HD.out rfl hz2 HU.out HOTH.out HO6.out HGROW.out HK76.out
        have hzn : B2 ≤ (w6.setCell ⟨g7, 4, none⟩ (.slice p6 (D.len + 1) c6)).heap.size := by
         rw [World.size_setCell]
         have := HGROW.out.size
         omega
        have happ2 : (D.app (.cons 8 0 ⟨#[]⟩ .nil (cellsB cs) .nil)).app (rowsB (AA.drop (i + 1))) = rowsB AA := by rw [Bls.app_assoc]; exact HAPP.out
        have hDl2 : (D.app (.cons 8 0 ⟨#[]⟩ .nil (cellsB cs) .nil)).len ≤ i + 1 := by rw [Bls.len_app]; show D.len + 1 ≤ _; omega
        have HRN := Lib.hid hRn
        have HAP2 := Lib.hid happ2
        clear hRn happ2
        go_wp2_with fail
        go_roundg (N - i)
        case measure => omega
        case rel => exact ⟨i + 1, D.app (.cons 8 0 ⟨#[]⟩ .nil (cellsB cs) .nil), _, by go_num, by omega, by omega, hbn, hzn, HRN.out, HAP2.out, hDl2⟩
    ·have hiN : i = N := by omega
     subst hiN
     have g2 : decide (i < i) = false := by simp
     have hdr : AA.drop i = [] := List.drop_eq_nil_iff.2 (by rw [HAL.out]; exact Nat.le_refl _)
     rw [hdr] at happ
     have hDD : D = rowsB AA := by rw [← happ]; exact (Bls.app_nil D).symm
     obtain ⟨pk, ck, hkv⟩ := hD.kids.form
     have hn6 : blsS.len D = D.len := rfl
     rw [hn6, hDD] at hkv
     subst hkv
     have hsl := hD.kids.sl
     have hK2 := HK.out.on hb
     obtain ⟨x0, x1, x2, x3, x4⟩ := hD.kn.five
     obtain ⟨y0, y1, y2, y3, y4⟩ := hK2.five
     have f0 := hK2.free 0
     have f1 := hK2.free 1
     have f2 := hK2.free 2
     have f3 := hK2.free 3
     have f4 := hK2.free 4
     have hl7r := hD.kn.lt
     have hlr := hK2.lt
     have hq : blsS.sl (fun k => W0.heap.size ≤ k) wr (.slice pk (rowsB AA).len ck) (rowsB AA) := by
      rw [← hDD]
      rw [← hDD] at hsl
      exact blsS.sl_on hsl (Kept.mono fun k hk _ => by
       rcases hk with ⟨jj, u, _, h2, h3⟩ | h
       ·exact (HA.out.lt u (List.mem_of_getElem? h2) k h3).1
       ·omega)
     have hbw0 := below_then HB0.out hb
     have HQ := Lib.hid hq
     have HK2 := Lib.hid hK2
     have HBW := Lib.hid hbw0
     clear hq hK2 hbw0 hsl hD happ hDD hb hDl hn6
     go_wp2_with fail
     have K5 := ((((HK2.out.put 0 (.int .i64 7)).put 1 (.int .i64 0)).put 2 (.string ⟨#[]⟩)).put 3 (.slice none 0 0)).put 4 (.slice pk (rowsB AA).len ck)
     obtain ⟨y0, y1, y2, y3, y4⟩ := K5.five
     have hne : ∀ k, W0.heap.size ≤ k → k ≠ w.heap.size := fun k hk => by omega
     exact bodyPost_ret (v := .agg #[.int .i64 7, .int .i64 0, .string ⟨#[]⟩, .slice none 0 0, .slice pk (rowsB AA).len ck]) (by simp [results, Tryz.results61, go_sem, y0, y1, y2, y3, y4]) rfl
      ⟨pk, ck, rfl, blsS.sl_on HQ.out ((((((Kept.put hne 0 (.int .i64 7)).trans (Kept.put hne 1 (.int .i64 0))).trans (Kept.put hne 2 (.string ⟨#[]⟩))).trans (Kept.put hne 3 (.slice none 0 0))).trans (Kept.put hne 4 (.slice pk (rowsB AA).len ck))).trans (Kept.mono fun k hk _ => by omega)), ((((HBW.out.setCell (Nat.le_refl _) _).setCell (Nat.le_refl _) _).setCell (Nat.le_refl _) _).setCell (Nat.le_refl _) _).setCell (Nat.le_refl _) _⟩
end Go.Proofs.YthieinfonomeeaaGreatDoor
namespace Go.Proofs.YthieinfonomeeaaGreatDoor
open Go.RowKit Doc Tit Inl Blk
set_option linter.unusedVariables false
attribute [local go_sem ↓] Go.wp_at_zero Go.wp_at_succ
theorem sl_one {q : Nat → Prop} {w : World} {a l : Int} {t : ByteArray} {n : Ins} {k : Bls} {u v : Value} {ty : TypeId} (hq : q w.heap.size) (hn : insS.sl q w u n) (hk : blsS.sl q w v k) :
  blsS.sl q (w.alloc (.cells #[.int .i64 a, .int .i64 l, .string t, u, v] ty)) (.slice (some ⟨w.heap.size, 0, none⟩) 1 1) (.cons a l t n k .nil) := by
 refine ⟨some ⟨w.heap.size, 0, none⟩, 1, rfl, Nat.le_refl _, by decide, (fun h => by cases h), .inr ⟨w.heap.size, 0, _, rfl, hq, by rw [World.size_alloc]; omega, ?_, u, v, [], rfl, insS.sl_on hn (Kept.alloc _), blsS.sl_on hk (Kept.alloc _), rfl⟩⟩
 intro i x hi
 rw [Nat.zero_add, (Known.made w ty _).cell i, ← Array.getElem?_toList]
 exact hi
def FirstR (x : ByteArray) (l : List ByteArray) (p : Option Addr) (c : Nat) (w : World) : Prop :=
 Calls Tryz.prog 34 #[.slice p (l.length + 1) c] w fun e w' => ∃ p' c', e = .returned (.tuple #[.slice p' (firstB (x.data.toList :: bl l)).1.len c', .int .i64 ((firstB (x.data.toList :: bl l)).2 : Nat)]) ∧
  blsS.sl (fun k => w.heap.size ≤ k) w' (.slice p' (firstB (x.data.toList :: bl l)).1.len c') (firstB (x.data.toList :: bl l)).1 ∧ Below w.heap.size w w'
theorem first0 {x : Line} (r : List Line) (h : kindL x = 0) : firstB (x :: r) = (.nil, 1) := by simp [firstB, h]
theorem first1 {x : Line} (r : List Line) (h : kindL x = 1) : firstB (x :: r) = (tableB (r.takeWhile fun l => !(Lib.hasPrefix l [124, 125])), min ((r.takeWhile fun l => !(Lib.hasPrefix l [124, 125])).length + 2) (r.length + 1)) := by simp [firstB, h]
theorem first2 {x : Line} (r : List Line) (h : kindL x = 2) : firstB (x :: r) = (blk 1 ((hd x).getD (0, [])).1 [] (read ((hd x).getD (0, [])).2) .nil, 1) := by simp [firstB, h]
theorem first3 {x : Line} (r : List Line) (h : kindL x = 3) : firstB (x :: r) = (blk 5 0 [] .nil .nil, 1) := by simp [firstB, h]
theorem first4 {x : Line} (r : List Line) (h : kindL x = 4) : firstB (x :: r) = (lists 0 ((x :: r.takeWhile listL).map item), (r.takeWhile listL).length + 1) := by simp [firstB, h]
theorem first5 {x : Line} (r : List Line) (h : kindL x = 5) : firstB (x :: r) = (blk 6 0 (dec (joinL ((x :: r.takeWhile fun l => !(emptyL l) && codeL l).map (·.drop 1)))) .nil .nil, (r.takeWhile fun l => !(emptyL l) && codeL l).length + 1) := by simp [firstB, h]
theorem first6 {x : Line} (r : List Line) (h : kindL x = 6) : firstB (x :: r) = (blk 2 0 [] (read (joinL (x :: r.takeWhile fun l => decide (kindL l = 6)))) .nil, (r.takeWhile fun l => decide (kindL l = 6)).length + 1) := by simp [firstB, h]
theorem kindL_le (x : Line) : kindL x ≤ 6 := by
 unfold kindL
 repeat' split
 all_goals omega
theorem kind_at {x : ByteArray} {k : Nat} (h : kindL x.data.toList = k) (hs : x.size ≤ 100000000) (w : World) : Calls Tryz.prog 58 #[.string x] w fun e w' => e = .returned (.int .i64 (k : Int)) ∧ Below w.heap.size w w' := by
 have := pkind_any x w hs
 rwa [h] at this
theorem kind2_some {x : Line} (h : kindL x = 2) : (hd x).isSome = true := by
 unfold kindL at h
 repeat' split at h
 all_goals first | assumption | (exfalso; omega)
theorem kind4_list {x : Line} (h : kindL x = 4) : listL x = true := by
 unfold kindL at h
 repeat' split at h
 all_goals first | assumption | (exfalso; omega)
theorem kind5_code {x : Line} (h : kindL x = 5) : codeL x = true := by
 unfold kindL at h
 repeat' split at h
 all_goals first | assumption | (exfalso; omega)
theorem hd_len {x : Line} {n : Nat} {T : Line} (h : hd x = some (n, T)) : T.length ≤ x.length := by
 have hr := rtrim_le bt x
 unfold hd hdT at h
 split at h
 ·cases h
 ·split at h
  ·cases h
  ·injection h with h
   injection h with h1 h2
   subst h2
   refine Nat.le_trans (trimW_le _ _) ?_
   rw [List.length_take, List.length_drop]
   omega
set_option maxRecDepth 10000 in
set_option maxHeartbeats 1000000 in
theorem pfirst_k0 (x : ByteArray) (l : List ByteArray) (p : Option Addr) (c : Nat) (w : World) (hs : x.size ≤ 100000000) (hv : SL w p c (x :: l)) (hk : kindL x.data.toList = 0) : FirstR x l p c w := by
 obtain ⟨b, o, rfl, hb, hc⟩ := hv.head
 have d0 := hc 0 x rfl
 rw [Nat.add_zero] at d0
 have hK := kind_at hk hs w
 have hcl := hv.1
 rw [List.length_cons] at hcl
 unfold FirstR
 rw [first0 _ hk]
 have HK := Lib.hid hK
 clear hK hk hc hv
 go_enter Tryz.func34, Tryz.ntmps34
 go_wp2_with fail
 refine HK.out.mono ?_
 rintro e w1 ⟨rfl, hb1⟩
 go_wp2_with fail
 exact bodyPost_ret (v := .tuple #[.slice none 0 0, .int .i64 1]) (by simp [results, Tryz.results34, go_sem]) rfl ⟨none, 0, rfl, Sl.empty, hb1⟩
set_option maxRecDepth 10000 in
set_option maxHeartbeats 1000000 in
theorem pfirst_k3 (x : ByteArray) (l : List ByteArray) (p : Option Addr) (c : Nat) (w : World) (hs : x.size ≤ 100000000) (hv : SL w p c (x :: l)) (hk : kindL x.data.toList = 3) : FirstR x l p c w := by
 obtain ⟨b, o, rfl, hb, hc⟩ := hv.head
 have d0 := hc 0 x rfl
 rw [Nat.add_zero] at d0
 have hK := kind_at hk hs w
 have hcl := hv.1
 rw [List.length_cons] at hcl
 unfold FirstR
 rw [first3 _ hk]
 have HK := Lib.hid hK
 clear hK hk hc hv
 go_enter Tryz.func34, Tryz.ntmps34
 go_wp2_with fail
 refine HK.out.mono ?_
 rintro e w1 ⟨rfl, hb1⟩
 go_wp2_with fail
 exact bodyPost_ret (v := .tuple #[.slice (some ⟨w1.heap.size, 0, none⟩) 1 1, .int .i64 1]) (by simp [results, Tryz.results34, go_sem]) rfl
  ⟨_, 1, rfl, sl_one hb1.size Sl.empty Sl.empty, below_then hb1 (below_new0 _ _)⟩
set_option maxRecDepth 10000 in
set_option maxHeartbeats 1000000 in
theorem pfirst_k2 (x : ByteArray) (l : List ByteArray) (p : Option Addr) (c : Nat) (w : World) (hs : x.size ≤ 100000000) (hm : MX w) (hv : SL w p c (x :: l)) (hk : kindL x.data.toList = 2) : FirstR x l p c w := by
 obtain ⟨b, o, rfl, hb, hc⟩ := hv.head
 have d0 := hc 0 x rfl
 rw [Nat.add_zero] at d0
 have hK := kind_at hk hs w
 have hcl := hv.1
 rw [List.length_cons] at hcl
 unfold FirstR
 rw [first2 _ hk]
 have hH := fun W => pheading_any x W hs
 have hsome : ∃ n T, hd x.data.toList = some (n, T) ∧ T.length ≤ x.size := by
  have h1 := kind2_some hk
  cases h2 : hd x.data.toList with
  | none => rw [h2] at h1; cases h1
  | some y =>
    obtain ⟨n, T⟩ := y
    have h3 := hd_len h2
    have hz : x.data.toList.length = x.size := by simp
    exact ⟨n, T, rfl, by omega⟩
 obtain ⟨n, T, hd1, hT⟩ := hsome
 rw [hd1] at hH ⊢
 have hH : ∀ W, Calls Tryz.prog 62 #[.string x] W fun e w' => e = .returned (.tuple #[.int .i64 (n : Int), .string ⟨T.toArray⟩, .bool true]) ∧ Below W.heap.size W w' := fun W => (hH W).mono fun e w' h => by
  obtain ⟨k, h1, h2⟩ := h
  exact ⟨h1, h2⟩
 have hP := fun W => pparse17_any ⟨T.toArray⟩ W (by show T.length ≤ _; omega)
 have eT : (⟨T.toArray⟩ : ByteArray).data.toList = T := rfl
 rw [eT] at hP
 have eg : ((some (n, T)).getD (0, [])) = (n, T) := rfl
 rw [eg]
 obtain ⟨TB, hTB⟩ : ∃ TB : ByteArray, ⟨T.toArray⟩ = TB := ⟨_, rfl⟩
 rw [hTB] at hH hP
 have HK := Lib.hid hK
 have HH := Lib.hid hH
 have HP := Lib.hid hP
 have HM := Lib.hid hm
 clear hK hk hc hv hH hP hd1 eT eg hTB hm
 go_enter Tryz.func34, Tryz.ntmps34
 go_wp2_with fail
 refine HK.out.mono ?_
 rintro e w1 ⟨rfl, hb1⟩
 have d1 := (hb1.cell (p := ⟨b, o, none⟩) hb).trans d0
 have hbl1 : b < w1.heap.size := Nat.lt_of_lt_of_le hb hb1.size
 go_wp2_with fail
 refine (HH.out _).mono ?_
 rintro e w2 ⟨rfl, hb2⟩
 have hb2' := below_then hb1 hb2
 have hm2 := HM.out.below hb2'
 have HM2 := Lib.hid hm2
 clear hm2
 go_wp2_with fail
 refine (HP.out _ HM2.out).mono ?_
 rintro e w3 ⟨pI, cI, rfl, hsl, hb3⟩
 have hz := hb2'.size
 have hb3' := below_then hb2' hb3
 have HSL := Lib.hid hsl
 clear hsl
 go_wp2_with fail
 exact bodyPost_ret (v := .tuple #[.slice (some ⟨w3.heap.size, 0, none⟩) 1 1, .int .i64 1]) (by simp [results, Tryz.results34, go_sem]) rfl
  ⟨_, 1, rfl, sl_one hb3'.size (insS.sl_on HSL.out (Kept.mono fun k hk _ => by omega)) Sl.empty, below_then hb3' (below_new0 _ _)⟩
theorem first_fn {pr : Line → Bool} {l : List ByteArray} (F : Nat) (hF : ∀ args w, (callFunc F args).run Tryz.prog w = .ok (.enter F args) w) (hp : ∀ (s : ByteArray) (W : World), s.size ≤ 100000000 → Calls Tryz.prog F #[.string s] W fun e w' => e = .returned (.bool (pr s.data.toList)) ∧ Below W.heap.size W w')
  {x : ByteArray} {p : Option Addr} {c : Nat} {w : World} (hl : Short (x :: l)) (hv : SL w p c (x :: l)) {q : Nat} (hq : q = ((bl l).takeWhile pr).length) :
  Calls Tryz.prog 59 #[.slice p (l.length + 1) c, .func (.func F) #[] #[]] w fun e w' => e = .returned (.int .i64 ((q : Int) + 1)) ∧ Below w.heap.size w w' := by
 have := pwhile_any F pr x l p c w hF hp hl hv
 rw [← hq] at this
 exact this
theorem bl_tw (pr : Line → Bool) (l : List ByteArray) : bl (l.take ((bl l).takeWhile pr).length) = (bl l).takeWhile pr := by
 rw [bl_take]; exact take_twp pr _
set_option maxRecDepth 10000 in
set_option maxHeartbeats 2000000 in
theorem pfirst_k5 (x : ByteArray) (l : List ByteArray) (p : Option Addr) (c : Nat) (w : World) (ht : Blk.tot (x.data.toList :: bl l) ≤ 1000000) (hm : MX w) (hv : SL w p c (x :: l)) (hk : kindL x.data.toList = 5) : FirstR x l p c w := by
 obtain ⟨b, o, rfl, hb, hc⟩ := hv.head
 have d0 := hc 0 x rfl
 rw [Nat.add_zero] at d0
 have hsh : Short (x :: l) := short_tot (by show Blk.tot (x.data.toList :: bl l) ≤ _; omega)
 have hK := kind_at hk (hsh x List.mem_cons_self) w
 have hcl := hv.1
 have hcm := hv.2.1
 rw [List.length_cons] at hcl
 unfold FirstR
 rw [first5 _ hk]
 obtain ⟨q, hq⟩ : ∃ q, q = ((bl l).takeWhile fun l => !(emptyL l) && codeL l).length := ⟨_, rfl⟩
 have hql : q ≤ l.length := by
  have := twl_le (fun l => !(emptyL l) && codeL l) (bl l)
  rw [bl_length] at this
  omega
 have hW := fun (W : World) (hb : Below w.heap.size w W) => first_fn 67 enters_first2 pfirst2_any hsh (hv.below hb) hq
 have htk := hv.take (q + 1) (by rw [List.length_cons]; omega)
 rw [List.take_succ_cons] at htk
 have hbt := bl_tw (fun l => !(emptyL l) && codeL l) l
 rw [← hq] at hbt
 have hone : ∀ y ∈ x :: l.take q, 1 ≤ y.size := by
  have key : ∀ y : ByteArray, codeL y.data.toList = true → 1 ≤ y.size := fun y hy => by
   have hz : y.data.toList.length = y.size := by simp
   cases hl : y.data.toList with
   | nil => rw [hl] at hy; cases hy
   | cons a r => rw [hl] at hz; simp at hz; omega
  intro y hy
  rcases List.mem_cons.1 hy with rfl | hy
  ·exact key _ (kind5_code hk)
  ·have h1 : y.data.toList ∈ (bl l).takeWhile fun l => !(emptyL l) && codeL l := by rw [← hbt]; exact List.mem_map.2 ⟨y, hy, rfl⟩
   have h2 := List.all_eq_true.1 (List.all_takeWhile (p := fun l : Line => !(emptyL l) && codeL l) (l := bl l)) _ h1
   simp only [Bool.and_eq_true] at h2
   exact key _ h2.2
 have hC := fun (W : World) (hb : Below w.heap.size w W) => pcode_any (x :: l.take q) (some ⟨b, o, none⟩) c W (by simp) hone (by
  show Blk.tot (x.data.toList :: bl (l.take q)) ≤ _
  have h1 := Blk.tot_take q (bl l)
  rw [Blk.tot] at ht ⊢
  rw [bl_take]; omega) (htk.below hb)
 have hll : (x :: l.take q).length = q + 1 := by rw [List.length_cons, List.length_take]; omega
 have hbx : bl (x :: l.take q) = x.data.toList :: (bl l).takeWhile fun l => !(emptyL l) && codeL l := by
  show x.data.toList :: bl (l.take q) = _
  rw [hbt]
 rw [hll, hbx] at hC
 obtain ⟨DD, hDD⟩ : ∃ DD, dec (joinL ((x.data.toList :: (bl l).takeWhile fun l => !(emptyL l) && codeL l).map (·.drop 1))) = DD := ⟨_, rfl⟩
 rw [hDD] at hC ⊢
 rw [← hq]
 obtain ⟨n, hn⟩ : ∃ n, n = l.length := ⟨_, rfl⟩
 rw [← hn] at hcl hql hW ⊢
 have HK := Lib.hid hK
 have HW := Lib.hid hW
 have HC := Lib.hid hC
 clear hK hk hc hv hW hC hm hDD hq hbt hone hll hbx hn htk ht hsh
 go_enter Tryz.func34, Tryz.ntmps34
 go_wp2_with fail
 refine HK.out.mono ?_
 rintro e w1 ⟨rfl, hb1⟩
 go_wp2_with fail
 refine (HW.out _ hb1).mono ?_
 rintro e w2 ⟨rfl, hb2⟩
 have hb2' := below_then hb1 hb2
 go_wp2_with fail
 refine (HC.out _ hb2').mono ?_
 rintro e w3 ⟨rfl, hb3⟩
 have hb3' := below_then hb2' hb3
 go_wp2_with fail
 exact bodyPost_ret (v := .tuple #[.slice (some ⟨w3.heap.size, 0, none⟩) 1 1, .int .i64 ((q : Int) + 1)]) (by simp [results, Tryz.results34, go_sem]) rfl
  ⟨_, 1, rfl, sl_one hb3'.size Sl.empty Sl.empty, below_then hb3' (below_new0 _ _)⟩
end Go.Proofs.YthieinfonomeeaaGreatDoor
