/-
  The claim's own texts, packed. Conditions: those typed in each theorem.
-/
import Derived.Test.YthieinfonomeeaaGreatDoorZAaz
namespace Go.Proofs.YthieinfonomeeaaGreatDoor
open Go.RowKit Doc Tit Inl Blk
set_option linter.unusedVariables false
attribute [local go_sem ↓] Go.wp_at_zero Go.wp_at_succ
set_option maxRecDepth 10000 in
set_option maxHeartbeats 2000000 in
theorem pfirst_k6 (x : ByteArray) (l : List ByteArray) (p : Option Addr) (c : Nat) (w : World) (ht : Blk.tot (x.data.toList :: bl l) ≤ 1000000) (hm : MX w) (hv : SL w p c (x :: l)) (hk : kindL x.data.toList = 6) : FirstR x l p c w := by
 obtain ⟨b, o, rfl, hb, hc⟩ := hv.head
 have d0 := hc 0 x rfl
 rw [Nat.add_zero] at d0
 have hsh : Short (x :: l) := short_tot (by show Blk.tot (x.data.toList :: bl l) ≤ _; omega)
 have hK := kind_at hk (hsh x List.mem_cons_self) w
 have hcl := hv.1
 have hcm := hv.2.1
 rw [List.length_cons] at hcl
 unfold FirstR
 rw [first6 _ hk]
 obtain ⟨q, hq⟩ : ∃ q, q = ((bl l).takeWhile fun l => decide (kindL l = 6)).length := ⟨_, rfl⟩
 have hql : q ≤ l.length := by
  have := twl_le (fun l => decide (kindL l = 6)) (bl l)
  rw [bl_length] at this
  omega
 have hW := fun (W : World) (hb : Below w.heap.size w W) => first_fn 70 enters_first3 pfirst3_any hsh (hv.below hb) hq
 have hbt := bl_tw (fun l => decide (kindL l = 6)) l
 rw [← hq] at hbt
 have hll : (x :: l.take q).length = q + 1 := by rw [List.length_cons, List.length_take]; omega
 have hbx : bl (x :: l.take q) = x.data.toList :: (bl l).takeWhile fun l => decide (kindL l = 6) := by
  show x.data.toList :: bl (l.take q) = _
  rw [hbt]
 have htt : Blk.tot (bl (x :: l.take q)) ≤ 1000000 := by
  show Blk.tot (x.data.toList :: bl (l.take q)) ≤ _
  have h1 := Blk.tot_take q (bl l)
  rw [Blk.tot] at ht ⊢
  rw [bl_take]; omega
 have hC := fun (W : World) (hbW : Below w.heap.size w W) => pjoin_any b o c (x :: l.take q) W (fun j y hj => by
  refine (hbW.cell (p := ⟨b, o + j, none⟩) hb).trans (hc j y ?_)
  rw [← List.take_succ_cons, List.getElem?_take] at hj
  split at hj
  ·exact hj
  ·cases hj) (Nat.lt_of_lt_of_le hb hbW.size) (by rw [hll]; omega) (by omega)
 rw [hll] at hC
 have hjl := joinL_len (bl (x :: l.take q))
 rw [hbx] at hC hjl htt
 obtain ⟨JJ, hJJ⟩ : ∃ JJ, joinL (x.data.toList :: (bl l).takeWhile fun l => decide (kindL l = 6)) = JJ := ⟨_, rfl⟩
 rw [hJJ] at hC hjl ⊢
 rw [← hq]
 have hP := fun W => pparse17_any ⟨JJ.toArray⟩ W (by show JJ.length ≤ _; omega)
 have eT : (⟨JJ.toArray⟩ : ByteArray).data.toList = JJ := rfl
 rw [eT] at hP
 obtain ⟨TB, hTB⟩ : ∃ TB : ByteArray, ⟨JJ.toArray⟩ = TB := ⟨_, rfl⟩
 rw [hTB] at hC hP
 obtain ⟨n, hn⟩ : ∃ n, n = l.length := ⟨_, rfl⟩
 rw [← hn] at hcl hql hW ⊢
 have HK := Lib.hid hK
 have HW := Lib.hid hW
 have HC := Lib.hid hC
 have HP := Lib.hid hP
 have HM := Lib.hid hm
 clear hK hk hc hv hW hC hm hJJ hq hbt hll hbx hn ht hsh hjl htt hP eT hTB
 go_enter Tryz.func34, Tryz.ntmps34
 go_wp2_with fail
 refine HK.out.mono ?_
 rintro e w1 ⟨rfl, hb1⟩
 go_wp2_with fail
 refine (HW.out _ hb1).mono ?_
 rintro e w2 ⟨rfl, hb2⟩
 have hb2' := below_then hb1 hb2
 go_wp2_with fail
 refine (HC.out _ hb2').mono ?_
 rintro e w3 ⟨rfl, hb3⟩
 have hb3' := below_then hb2' hb3
 have hm3 := HM.out.below hb3'
 have HM3 := Lib.hid hm3
 clear hm3
 go_wp2_with fail
 refine (HP.out _ HM3.out).mono ?_
 rintro e w4 ⟨pI, cI, rfl, hsl, hb4⟩
 have hz := hb3'.size
 have hb4' := below_then hb3' hb4
 have HSL := Lib.hid hsl
 clear hsl
 go_wp2_with fail
 exact bodyPost_ret (v := .tuple #[.slice (some ⟨w4.heap.size, 0, none⟩) 1 1, .int .i64 ((q : Int) + 1)]) (by simp [results, Tryz.results34, go_sem]) rfl
  ⟨_, 1, rfl, sl_one hb4'.size (insS.sl_on HSL.out (Kept.mono fun k hk _ => by omega)) Sl.empty, below_then hb4' (below_new0 _ _)⟩
theorem deep_items {L : List ByteArray} (h : ∀ y ∈ L, listL y.data.toList = true) : Deep 0 ((L.map itB).map toIt) := by
 intro y hy
 obtain ⟨z, hz, rfl⟩ := List.mem_map.1 hy
 obtain ⟨s, hs, rfl⟩ := List.mem_map.1 hz
 have h1 := h s hs
 rw [toIt_itB]
 unfold item
 show 0 < (s.data.toList.takeWhile star).length
 cases hl : s.data.toList with
 | nil => rw [hl] at h1; cases h1
 | cons a r =>
   rw [hl] at h1
   have h2 : star a = true := h1
   rw [List.takeWhile_cons, if_pos h2]
   simp
theorem short_items {L : List ByteArray} (h : Short L) : ShortI (L.map itB) := by
 intro y hy
 obtain ⟨s, hs, rfl⟩ := List.mem_map.1 hy
 have h1 := h s hs
 have hz : s.data.toList.length = s.size := by simp
 constructor
 ·show (s.data.toList.takeWhile star).length ≤ _
  have := twl_le star s.data.toList
  omega
 ·show (trimW ws4 (s.data.toList.dropWhile star)).length ≤ _
  have h2 := trimW_le ws4 (s.data.toList.dropWhile star)
  have h3 := congrArg List.length (List.takeWhile_append_dropWhile (p := star) (l := s.data.toList))
  rw [List.length_append] at h3
  omega
set_option maxRecDepth 10000 in
set_option maxHeartbeats 2000000 in
theorem pfirst_k4 (x : ByteArray) (l : List ByteArray) (p : Option Addr) (c : Nat) (w : World) (ht : Blk.tot (x.data.toList :: bl l) ≤ 1000000) (hm : MX w) (hv : SL w p c (x :: l)) (hk : kindL x.data.toList = 4) : FirstR x l p c w := by
 obtain ⟨b, o, rfl, hb, hc⟩ := hv.head
 have d0 := hc 0 x rfl
 rw [Nat.add_zero] at d0
 have hsh : Short (x :: l) := short_tot (by show Blk.tot (x.data.toList :: bl l) ≤ _; omega)
 have hK := kind_at hk (hsh x List.mem_cons_self) w
 have hcl := hv.1
 have hcm := hv.2.1
 rw [List.length_cons] at hcl
 unfold FirstR
 rw [first4 _ hk]
 obtain ⟨q, hq⟩ : ∃ q, q = ((bl l).takeWhile listL).length := ⟨_, rfl⟩
 have hql : q ≤ l.length := by
  have := twl_le listL (bl l)
  rw [bl_length] at this
  omega
 have hW := fun (W : World) (hb : Below w.heap.size w W) => first_fn 64 enters_listed (fun s W _ => plisted_any s W) hsh (hv.below hb) hq
 have htk := hv.take (q + 1) (by rw [List.length_cons]; omega)
 rw [List.take_succ_cons] at htk
 have hbt := bl_tw listL l
 rw [← hq] at hbt
 have hll : (x :: l.take q).length = q + 1 := by rw [List.length_cons, List.length_take]; omega
 have hbx : bl (x :: l.take q) = x.data.toList :: (bl l).takeWhile listL := by
  show x.data.toList :: bl (l.take q) = _
  rw [hbt]
 have hlt : l.length + 1 ≤ 1000000 := by
  have h1 := Blk.len_tot (x.data.toList :: bl l)
  rw [List.length_cons, bl_length] at h1
  omega
 have hone : ∀ y ∈ x :: l.take q, listL y.data.toList = true := by
  intro y hy
  rcases List.mem_cons.1 hy with rfl | hy
  ·exact kind4_list hk
  ·have h1 : y.data.toList ∈ (bl l).takeWhile listL := by rw [← hbt]; exact List.mem_map.2 ⟨y, hy, rfl⟩
   exact List.all_eq_true.1 (List.all_takeWhile (p := listL) (l := bl l)) _ h1
 have hsq : Short (x :: l.take q) := fun y hy => by
  rcases List.mem_cons.1 hy with rfl | hy
  ·exact hsh _ List.mem_cons_self
  ·exact hsh y (List.mem_cons_of_mem _ (List.mem_of_mem_take hy))
 have hI := fun (W : World) (hb : Below w.heap.size w W) => pitems_any (x :: l.take q) (some ⟨b, o, none⟩) c W hsq (by rw [hll]; omega) (htk.below hb)
 have hD := deep_items hone
 have hSI := short_items hsq
 have hit : ((x :: l.take q).map itB).map toIt = (x.data.toList :: (bl l).takeWhile listL).map item := by
  rw [← hbx]
  simp [bl, toIt_itB, Function.comp_def]
 have hLe : lists 0 ((x.data.toList :: (bl l).takeWhile listL).map item) = LI 0 (((x :: l.take q).map itB).map toIt) := by
  rw [← hit]; exact lists_eq hD
 rw [hll] at hI
 obtain ⟨M, hM⟩ : ∃ M, M = (x :: l.take q).map itB := ⟨_, rfl⟩
 have hMl : M.length = q + 1 := by rw [hM, List.length_map]; exact hll
 rw [← hM] at hI hD hSI hLe
 have hL := fun (p : Option Addr) (c : Nat) (W : World) (hm : MX W) (hil : IL W p c M) => plists_all (2 * sumD 0 (M.map toIt)) 0 M p c W (Nat.le_refl _) hD hSI (by omega) hm hil
 rw [hLe, ← hq]
 rw [hMl] at hL
 obtain ⟨K, hKK⟩ : ∃ K, LI 0 (M.map toIt) = K := ⟨_, rfl⟩
 rw [hKK] at hL ⊢
 obtain ⟨n, hn⟩ : ∃ n, n = l.length := ⟨_, rfl⟩
 rw [← hn] at hcl hql hW hlt ⊢
 have HK := Lib.hid hK
 have HW := Lib.hid hW
 have HI := Lib.hid hI
 have HL := Lib.hid hL
 have HM := Lib.hid hm
 clear hK hk hc hv hW hI hL hm hq hbt hone hll hbx hn htk ht hsh hsq hD hSI hit hLe hM hMl hKK
 go_enter Tryz.func34, Tryz.ntmps34
 go_wp2_with fail
 refine HK.out.mono ?_
 rintro e w1 ⟨rfl, hb1⟩
 go_wp2_with fail
 refine (HW.out _ hb1).mono ?_
 rintro e w2 ⟨rfl, hb2⟩
 have hb2' := below_then hb1 hb2
 go_wp2_with fail
 refine (HI.out _ hb2').mono ?_
 rintro e w3 ⟨pI, cI, rfl, hil, hb3⟩
 have hb3' := below_then hb2' hb3
 have hm3 := HM.out.below hb3'
 have HM3 := Lib.hid hm3
 have HIL := Lib.hid hil
 clear hm3 hil
 go_wp2_with fail
 refine (HL.out pI cI w3 HM3.out HIL.out).mono ?_
 rintro e w4 ⟨pL, cL, rfl, hsl, hb4⟩
 have hz := hb3'.size
 have hb4' := below_then hb3' hb4
 have HSL := Lib.hid hsl
 clear hsl
 go_wp2_with fail
 exact bodyPost_ret (v := .tuple #[.slice pL K.len cL, .int .i64 ((q : Int) + 1)]) (by simp [results, Tryz.results34, go_sem]) rfl
  ⟨pL, cL, rfl, blsS.sl_on HSL.out (Kept.mono fun k hk _ => by omega), hb4'⟩
set_option maxRecDepth 10000 in
set_option maxHeartbeats 2000000 in
theorem pfirst_k1 (x : ByteArray) (l : List ByteArray) (p : Option Addr) (c : Nat) (w : World) (ht : Blk.tot (x.data.toList :: bl l) ≤ 1000000) (hm : MX w) (hv : SL w p c (x :: l)) (hk : kindL x.data.toList = 1) : FirstR x l p c w := by
 obtain ⟨b, o, rfl, hb, hc⟩ := hv.head
 have d0 := hc 0 x rfl
 rw [Nat.add_zero] at d0
 have hsh : Short (x :: l) := short_tot (by show Blk.tot (x.data.toList :: bl l) ≤ _; omega)
 have hK := kind_at hk (hsh x List.mem_cons_self) w
 have hcl := hv.1
 have hcm := hv.2.1
 rw [List.length_cons] at hcl
 unfold FirstR
 rw [first1 _ hk]
 obtain ⟨q, hq⟩ : ∃ q, q = ((bl l).takeWhile fun l => !(Lib.hasPrefix l [124, 125])).length := ⟨_, rfl⟩
 have hql : q ≤ l.length := by
  have := twl_le (fun l => !(Lib.hasPrefix l [124, 125])) (bl l)
  rw [bl_length] at this
  omega
 have hW := fun (W : World) (hb : Below w.heap.size w W) => first_fn 60 enters_first1 pfirst1_any hsh (hv.below hb) hq
 have hbt := bl_tw (fun l => !(Lib.hasPrefix l [124, 125])) l
 rw [← hq] at hbt
 have hll : (l.take q).length = q := by rw [List.length_take]; omega
 have hdr := (hv.drop hb hc 1 (by rw [List.length_cons]; omega))
 rw [List.drop_succ_cons, List.drop_zero] at hdr
 have htk := hdr.take q hql
 have htt : Blk.tot (bl (l.take q)) ≤ 10000000 := by
  have h1 := Blk.tot_take q (bl l)
  rw [Blk.tot] at ht
  rw [bl_take]; omega
 have hT := fun (p : Option Addr) (c : Nat) (W : World) (hm : MX W) (hs : SL W p c (l.take q)) => ptable_any (l.take q) p c W hm htt hs
 rw [hll, hbt] at hT
 rw [← hq, bl_length]
 unfold tableB
 obtain ⟨K, hKK⟩ : ∃ K, rowsB (tabOf ((bl l).takeWhile fun l => !(Lib.hasPrefix l [124, 125]))) = K := ⟨_, rfl⟩
 rw [hKK] at hT ⊢
 have hemp : c = 1 → l.take q = [] := fun h => by
  have : l.length = 0 := by omega
  rw [List.length_eq_zero_iff.1 this]; simp
 obtain ⟨LT, hLT⟩ : ∃ LT, LT = l.take q := ⟨_, rfl⟩
 rw [← hLT] at hT htk hemp
 obtain ⟨n, hn⟩ : ∃ n, n = l.length := ⟨_, rfl⟩
 have hlt : n ≤ 1000000 := by
  have h1 := Blk.len_tot (x.data.toList :: bl l)
  rw [List.length_cons, bl_length] at h1
  omega
 rw [← hn] at hcl hql hW ⊢
 have HK := Lib.hid hK
 have HW := Lib.hid hW
 have HT := Lib.hid hT
 have HM := Lib.hid hm
 have HTK := Lib.hid htk
 have HEMP := Lib.hid hemp
 clear hK hk hc hv hW hT hm hq hbt hll hn htk ht hsh htt hdr hKK hLT hemp
 by_cases hc1 : c = 1
 ·have hlt0 := HEMP.out hc1
  have HLT := Lib.hid hlt0
  clear hlt0
  subst hc1
  have hn0 : n = 0 := by omega
  have hq0 : q = 0 := by omega
  subst hn0 hq0
  go_enter Tryz.func34, Tryz.ntmps34
  go_wp2_with fail
  refine HK.out.mono ?_
  rintro e w1 ⟨rfl, hb1⟩
  go_wp2_with fail
  refine (HW.out _ hb1).mono ?_
  rintro e w2 ⟨rfl, hb2⟩
  have hb2' := below_then hb1 hb2
  have hm2 := HM.out.below hb2'
  have HM2 := Lib.hid hm2
  clear hm2
  go_wp2_with fail
  refine (HT.out (some ⟨b, o, none⟩) 0 w2 HM2.out (by rw [HLT.out]; exact SL.none_left)).mono ?_
  rintro e w3 ⟨pT, cT, rfl, hsl, hb3⟩
  have hz := hb2'.size
  have hb3' := below_then hb2' hb3
  have HSL := Lib.hid hsl
  clear hsl
  go_wp2_with fail
  exact bodyPost_ret (v := .tuple #[.slice (some ⟨w3.heap.size, 0, none⟩) 1 1, .int .i64 1]) (by simp [results, Tryz.results34, go_sem]; decide) rfl
   ⟨_, 1, rfl, sl_one hb3'.size Sl.empty (blsS.sl_on HSL.out (Kept.mono fun k hk _ => by omega)), below_then hb3' (below_new0 _ _)⟩
 ·go_enter Tryz.func34, Tryz.ntmps34
  go_wp2_with fail
  refine HK.out.mono ?_
  rintro e w1 ⟨rfl, hb1⟩
  go_wp2_with fail
  refine (HW.out _ hb1).mono ?_
  rintro e w2 ⟨rfl, hb2⟩
  have hb2' := below_then hb1 hb2
  have hm2 := HM.out.below hb2'
  have HM2 := Lib.hid hm2
  clear hm2
  go_wp2_with fail
  refine (HT.out (some ⟨b, o + 1, none⟩) (c - 1) w2 HM2.out (HTK.out.below hb2')).mono ?_
  rintro e w3 ⟨pT, cT, rfl, hsl, hb3⟩
  have hz := hb2'.size
  have hb3' := below_then hb2' hb3
  have HSL := Lib.hid hsl
  clear hsl
  go_wp2_with fail
  exact bodyPost_ret (v := .tuple #[.slice (some ⟨w3.heap.size, 0, none⟩) 1 1, .int .i64 (min ((q : Int) + 1) n + 1)]) (by simp [results, Tryz.results34, go_sem]) rfl
   ⟨_, 1, by rw [show ((min (q + 2) (n + 1) : Nat) : Int) = min ((q : Int) + 1) n + 1 by omega]; rfl, sl_one hb3'.size Sl.empty (blsS.sl_on HSL.out (Kept.mono fun k hk _ => by omega)), below_then hb3' (below_new0 _ _)⟩
theorem pfirst_any (x : ByteArray) (l : List ByteArray) (p : Option Addr) (c : Nat) (w : World) (ht : Blk.tot (x.data.toList :: bl l) ≤ 1000000) (hm : MX w) (hv : SL w p c (x :: l)) : FirstR x l p c w := by
 have hs : x.size ≤ 100000000 := short_tot (l := x :: l) (by show Blk.tot (x.data.toList :: bl l) ≤ _; omega) x List.mem_cons_self
 have h6 := kindL_le x.data.toList
 obtain ⟨k, hk⟩ : ∃ k, kindL x.data.toList = k := ⟨_, rfl⟩
 rw [hk] at h6
 match k, h6, hk with
 | 0, _, hk => exact pfirst_k0 x l p c w hs hv hk
 | 1, _, hk => exact pfirst_k1 x l p c w ht hm hv hk
 | 2, _, hk => exact pfirst_k2 x l p c w hs hm hv hk
 | 3, _, hk => exact pfirst_k3 x l p c w hs hv hk
 | 4, _, hk => exact pfirst_k4 x l p c w ht hm hv hk
 | 5, _, hk => exact pfirst_k5 x l p c w ht hm hv hk
 | 6, _, hk => exact pfirst_k6 x l p c w ht hm hv hk
end Go.Proofs.YthieinfonomeeaaGreatDoor
namespace Go.Proofs.YthieinfonomeeaaGreatDoor
open Go.RowKit Doc Tit Inl Blk
set_option linter.unusedVariables false
attribute [local go_sem ↓] Go.wp_at_zero Go.wp_at_succ
theorem listsF_len : ∀ (f d : Nat) (l : List It), (listsF f d l).len ≤ l.length
 | 0, _, _ => by simp [listsF, Bls.len]
 | f + 1, d, [] => by simp [listsF, Bls.len]
 | f + 1, d, x :: r => by
   rw [listsF, Bls.len_app]
   have h := listsF_len f d ((x :: r).drop (Blk.runN d x.pre[d]? r + 1))
   rw [List.length_drop] at h
   rw [List.length_cons] at h ⊢
   show 1 + _ ≤ _
   omega
theorem firstB_len (x : Line) (r : List Line) : (firstB (x :: r)).1.len ≤ (firstB (x :: r)).2 := by
 have hp := (firstB_pos x r).1
 have h6 := kindL_le x
 obtain ⟨k, hk⟩ : ∃ k, kindL x = k := ⟨_, rfl⟩
 rw [hk] at h6
 match k, h6, hk with
 | 0, _, hk => rw [first0 _ hk]; decide
 | 1, _, hk => rw [first1 _ hk] at hp ⊢; exact hp
 | 2, _, hk => rw [first2 _ hk]; exact Nat.le_refl _
 | 3, _, hk => rw [first3 _ hk]; exact Nat.le_refl _
 | 4, _, hk =>
   rw [first4 _ hk]
   have := listsF_len (4 * sumD 0 ((x :: r.takeWhile listL).map item) + 2) 0 ((x :: r.takeWhile listL).map item)
   rw [List.length_map, List.length_cons] at this
   exact this
 | 5, _, hk => rw [first5 _ hk] at hp ⊢; exact hp
 | 6, _, hk => rw [first6 _ hk] at hp ⊢; exact hp
theorem split_nl (s : ByteArray) : bl (Lib.splitB ⟨#[10]⟩ 0 (Lib.countB s ⟨#[10]⟩) s) = lines s.data.toList := by
 show (Lib.splitB ⟨#[10]⟩ 0 (Lib.countB s ⟨#[10]⟩) s).map (·.data.toList) = _
 rw [Lib.splitB_data]
 refine split_lines 10 _ _ ?_
 have h : Lib.countB s ⟨#[10]⟩ = s.data.toList.count 10 := Lib.count_one 10 s.data.toList
 rw [h]
 exact Nat.le_refl _
set_option maxRecDepth 10000 in
set_option maxHeartbeats 2000000 in
theorem pbparse_any (s : ByteArray) (w : World) (hs : s.size ≤ 32768) (hm : MX w) : Calls Tryz.prog 13 #[.string s] w fun e w' => ∃ p c, e = .returned (.tuple #[.slice p (blocks s.data.toList).len c, .int .i64 0]) ∧
  blsS.sl (fun k => w.heap.size ≤ k) w' (.slice p (blocks s.data.toList).len c) (blocks s.data.toList) ∧ Below w.heap.size w w' := by
 have HMX := Lib.hid hm
 obtain ⟨m, hm⟩ := hm
 have g1 : decide ((32768 : Int) < (s.size : Int)) = false := decide_eq_false (by omega)
 have hz : s.data.toList.length = s.size := by simp
 have hS := Tryz.strings_Split s ⟨#[10]⟩ m w (by omega) hm (by show 1 ≤ 1; decide)
 have hbl := split_nl s
 have hall := Lib.splitB_all (⟨#[10]⟩ : ByteArray) (by show 1 ≤ 1; decide) 0 _ s rfl
 have hle := Lib.countB_le (⟨#[10]⟩ : ByteArray) (by show 1 ≤ 1; decide) _ s (Nat.le_refl _)
 obtain ⟨l, hl⟩ : ∃ l, l = Lib.splitB ⟨#[10]⟩ 0 (Lib.countB s ⟨#[10]⟩) s := ⟨_, rfl⟩
 rw [← hl] at hS hbl hall
 have htot : Blk.tot (bl l) ≤ 1000000 := by
  rw [hbl]
  show Blk.tot (spl 10 _) ≤ _
  rw [spl_tot]; omega
 rw [blocks_BL, ← hbl]
 obtain ⟨n, hn⟩ : ∃ n, n = Lib.countB s ⟨#[10]⟩ + 1 := ⟨_, rfl⟩
 rw [← hn] at hS hall
 have hn1 : n ≤ 100000 := by omega
 have HS := Lib.hid hS
 have HL := Lib.hid hall
 have HTOT := Lib.hid htot
 clear hS hall hle hl hbl hn htot hm
 go_enter Tryz.func13, Tryz.ntmps13
 go_wp2_with fail
 refine HS.out.mono ?_
 rintro e W0 ⟨rfl, hW0⟩
 have hb0 : Below w.heap.size w W0 := by rw [hW0]; exact below_new0 _ _
 have hsz0 : w.heap.size < W0.heap.size := by rw [hW0]; simp
 have hSL : SL W0 (some ⟨w.heap.size, 0, none⟩) n l := ⟨by rw [HL.out]; exact Nat.le_refl _, by omega, .inr ⟨w.heap.size, 0, rfl, hsz0, fun j t hj => by
  rw [hW0, Nat.zero_add, (Known.made w _ _).cell j]
  simp [hj]⟩⟩
 have HSL := Lib.hid hSL
 have HB0 := Lib.hid hb0
 clear hSL hb0 hW0 HS
 go_wp2_with fail
 go_loopg [4, 5] (n + 1) (fun g s4 s5 wr => ∃ (R : List ByteArray) (p : Option Addr) (c : Nat) (D : Bls), s5 = .slice p R.length c ∧ SL W0 p c R ∧ R.length < g ∧ Below W0.heap.size W0 wr ∧ D.app (BL (bl R)) = BL (bl l) ∧ D.len + R.length ≤ n ∧ Blk.tot (bl R) ≤ 1000000 ∧ blsS.own 44 FF W0.heap.size wr s4 D)
 case atStart => exact ⟨l, _, n, .nil, by rw [HL.out], HSL.out, by rw [HL.out]; omega, Below.refl _ _, rfl, by rw [HL.out]; simp [Bls.len], HTOT.out, Shp.own.nil⟩
 case round =>
  obtain ⟨R, p, c, D, rfl, hvR, hg, hb, hD, hDl, htR, hown⟩ := hrel
  cases R with
  | nil =>
    obtain ⟨p', c', hvv⟩ := hown.form
    have hDD : D = BL (bl l) := by rw [← hD]; exact (Bls.app_nil D).symm
    have h3 := hown.sl
    rw [hvv] at h3
    subst hvv
    subst hDD
    have hbw := below_then HB0.out hb
    have h4 := blsS.sl_on h3 (q' := fun k => w.heap.size ≤ k) (Kept.mono fun k hk _ => by rcases hk with h | h; exact h.elim; omega)
    have H4 := Lib.hid h4
    clear hown hD h3 h4
    go_wp2_with fail
    exact bodyPost_ret (v := .tuple #[.slice p' (BL (bl l)).len c', .int .i64 0]) (by simp [results, Tryz.results13, go_sem]; rfl) rfl ⟨p', c', rfl, H4.out, hbw⟩
  | cons x r =>
    obtain ⟨b, o, rfl, hblw, hcw⟩ := hvR.head
    have hmr : MX wr := HMX.out.below (below_then HB0.out hb)
    have hF : FirstR x r (some ⟨b, o, none⟩) c wr := pfirst_any x r (some ⟨b, o, none⟩) c wr htR hmr (hvR.below hb)
    have hpos := firstB_pos x.data.toList (bl r)
    have hfl := firstB_len x.data.toList (bl r)
    have hDc : D.app ((firstB (x.data.toList :: bl r)).1.app (BL (bl ((x :: r).drop (firstB (x.data.toList :: bl r)).2)))) = BL (bl l) := by
     rw [← hD]
     show _ = D.app (BL (x.data.toList :: bl r))
     rw [BL_cons, bl_drop]
     rfl
    have htd : ∀ k, Blk.tot (bl ((x :: r).drop k)) ≤ 1000000 := fun k => by
     rw [bl_drop]
     exact Nat.le_trans (Blk.tot_drop k _) htR
    unfold FirstR at hF
    rw [List.length_cons, bl_length] at hpos
    obtain ⟨FB, hFB⟩ : ∃ FB, (firstB (x.data.toList :: bl r)).1 = FB := ⟨_, rfl⟩
    obtain ⟨k, hk⟩ : ∃ k, (firstB (x.data.toList :: bl r)).2 = k := ⟨_, rfl⟩
    rw [hFB, hk] at hF hDc
    rw [hFB, hk] at hfl
    rw [hk] at hpos
    obtain ⟨DR, hDR⟩ : ∃ DR, DR = (x :: r).drop k := ⟨_, rfl⟩
    have hDRl : DR.length = r.length + 1 - k := by rw [hDR, List.length_drop, List.length_cons]
    have htDR := htd k
    have hvD := hvR.drop hblw hcw k (by rw [List.length_cons]; omega)
    rw [← hDR] at hDc htDR hvD
    have hcl := hvR.1
    have hcm := hvR.2.1
    rw [List.length_cons] at hg hDl hcl
    rw [List.length_cons]
    have hlt := hown.lt
    obtain ⟨rl, hrl⟩ : ∃ rl, rl = r.length := ⟨_, rfl⟩
    rw [← hrl] at hF hg hDl hDRl hpos hcl ⊢
    obtain ⟨hp1, hp2⟩ := hpos
    have HF := Lib.hid hF
    have HDC := Lib.hid hDc
    have HVD := Lib.hid hvD
    have HTD := Lib.hid htDR
    have HB := Lib.hid hb
    have HO := Lib.hid hown
    have HLT := Lib.hid hlt
    have hzz := hb.size
    clear hF hDc hvD htDR hb hown hlt htd hFB hk hDR hrl hD hvR hcw htR hmr
    go_wp2_with fail
    refine HF.out.mono ?_
    rintro e w1 ⟨pF, cF, rfl, hsl, hb1⟩
    have hz1 := hb1.size
    have hO1 := HO.out.below hb1
    have hsr : blsS.src (Shp.kind FF W0.heap.size u4) w1 (.slice pF FB.len cF) FB := Shp.src_of (blsS.sl_on hsl (Kept.mono fun q hq _ => ⟨.inr (by omega), fun e => by have := (HLT.out q e).2; omega⟩))
    have hb2 := below_then HB.out hb1
    have HO1 := Lib.hid hO1
    have HSR := Lib.hid hsr
    have HB2 := Lib.hid hb2
    have hzB : W0.heap.size ≤ w1.heap.size := by omega
    clear hsl hb1 hO1 hsr hb2
    by_cases hck : c = k
    ·go_wp2_with (at_builtin; go_must (refine append_shp blsS tyB (L := D) (M := FB) _ rfl _ _ rfl HO1.out rfl HSR.out rfl (by show (D.len + FB.len) * 81 ≤ _; omega) hzB ?_); intro v' w5 hown' hgrow hbel hkd)
     have hbn := hbel W0 HB2.out
     have happ : (D.app FB).app (BL (bl DR)) = BL (bl l) := by rw [Bls.app_assoc]; exact HDC.out
     have hlen : (D.app FB).len + DR.length ≤ n := by rw [Bls.len_app]; omega
     have hsl : SL W0 (some ⟨b, o, none⟩) 0 DR := by
      have : DR = [] := List.length_eq_zero_iff.1 (by omega)
      rw [this]; exact SL.none_left
     have HAPP := Lib.hid happ
     have HSLD := Lib.hid hsl
     have HON := Lib.hid hown'
     clear hgrow hbel hkd happ hsl hown'
     go_roundg (rl + 1 - k + 1)
     case measure => omega
     case rel => exact ⟨DR, (some ⟨b, o, none⟩), 0, D.app FB, by rw [hDRl], HSLD.out, by omega, hbn, HAPP.out, hlen, HTD.out, HON.out⟩
    ·go_wp2_with (at_builtin; go_must (refine append_shp blsS tyB (L := D) (M := FB) _ rfl _ _ rfl HO1.out rfl HSR.out rfl (by show (D.len + FB.len) * 81 ≤ _; omega) hzB ?_); intro v' w5 hown' hgrow hbel hkd)
     have hbn := hbel W0 HB2.out
     have happ : (D.app FB).app (BL (bl DR)) = BL (bl l) := by rw [Bls.app_assoc]; exact HDC.out
     have hlen : (D.app FB).len + DR.length ≤ n := by rw [Bls.len_app]; omega
     have hsl : SL W0 (some ⟨b, o + k, none⟩) (c - k) DR := HVD.out
     have HAPP := Lib.hid happ
     have HSLD := Lib.hid hsl
     have HON := Lib.hid hown'
     clear hgrow hbel hkd happ hsl hown'
     go_roundg (rl + 1 - k + 1)
     case measure => omega
     case rel => exact ⟨DR, (some ⟨b, o + k, none⟩), (c - k), D.app FB, by rw [hDRl], HSLD.out, by omega, hbn, HAPP.out, hlen, HTD.out, HON.out⟩
end Go.Proofs.YthieinfonomeeaaGreatDoor
