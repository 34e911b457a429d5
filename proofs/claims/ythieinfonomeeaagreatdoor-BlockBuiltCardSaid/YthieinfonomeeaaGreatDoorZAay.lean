/-
  The claim's own texts, packed. Conditions: those typed in each theorem.
-/
import Derived.Test.YthieinfonomeeaaGreatDoorZAax
import Derived.Test.YthieinfonomeeaaGreatDoorZAac
import Derived.Test.YthieinfonomeeaaGreatDoorZAaw
namespace Go.Proofs.YthieinfonomeeaaGreatDoor
open Go.RowKit Doc Tit Inl Blk
set_option linter.unusedVariables false
attribute [local go_sem ↓] Go.wp_at_zero Go.wp_at_succ
theorem name_wb {F : World → Prop} {w : World} (h : ∀ W, W = w → F W) : F w := h w rfl
theorem bl_tot {l : List ByteArray} {N : Nat} (h : tot (bl l) ≤ N) : ∀ x ∈ l, x.size + 1 ≤ N := fun x hx => by
 have h1 : x.data.toList ∈ bl l := List.mem_map.2 ⟨x, hx, rfl⟩
 have h2 := tot_mem h1
 have h3 : x.data.toList.length = x.size := by simp
 omega
theorem short_tot {l : List ByteArray} (h : tot (bl l) ≤ 100000000) : Short l := fun x hx => by have := bl_tot h x hx; omega
theorem pjoin_any (bk o c : Nat) (xs : List ByteArray) (w : World) (hc : ∀ (j : Nat) x, xs[j]? = some x → w.cell? ⟨bk, o + j, none⟩ = some (.string x)) (hb : bk < w.heap.size) (hcap : xs.length ≤ c) (ht : tot (bl xs) ≤ 100000000) :
  Calls Tryz.prog 27 #[.slice (some ⟨bk, o, none⟩) xs.length c, .string ⟨#[10]⟩] w fun e w' => e = .returned (.string ⟨(joinL (bl xs)).toArray⟩) ∧ Below w.heap.size w w' := by
 have e : (⟨#[10]⟩ : ByteArray).data.toList = [10] := rfl
 have hj : Lib.join (xs.map (·.data.toList)) (⟨#[10]⟩ : ByteArray).data.toList = joinL (bl xs) := by rw [e]; exact joinL_join _
 have h1 := joinL_len (bl xs)
 have h2 := len_tot (bl xs)
 rw [bl_length] at h2
 have h := Tryz.strings_Join bk o c xs ⟨#[10]⟩ w hc hb (by omega) hcap (by rw [hj]; omega)
 rw [hj] at h
 exact h
def tl1 (s : ByteArray) : ByteArray := ⟨(s.data.toList.drop 1).toArray⟩
theorem bl_tl1 (l : List ByteArray) : bl (l.map tl1) = (bl l).map (·.drop 1) := by simp [bl, tl1]
set_option maxRecDepth 10000 in
set_option maxHeartbeats 2000000 in
theorem pcode_any (l : List ByteArray) (p : Option Addr) (c : Nat) (w : World) (hne : l ≠ []) (h1 : ∀ x ∈ l, 1 ≤ x.size) (ht : tot (bl l) ≤ 10000000) (hv : SL w p c l) :
  Calls Tryz.prog 69 #[.slice p l.length c] w fun e w' => e = .returned (.agg #[.int .i64 6, .int .i64 0, .string ⟨(dec (joinL ((bl l).map (·.drop 1)))).toArray⟩, .slice none 0 0, .slice none 0 0]) ∧ Below w.heap.size w w' := by
 have hnc := hv.1
 have hsh : Short l := short_tot (by omega)
 have hlen := len_tot (bl l)
 rw [bl_length] at hlen
 have hin : ∀ j, j < l.length → ∃ s : ByteArray, l[j]? = some s ∧ s.size ≤ 100000000 ∧ 1 ≤ s.size ∧ ∃ b o, p = some ⟨b, o, none⟩ ∧ b < w.heap.size ∧ w.cell? ⟨b, o + j, none⟩ = some (.string s) := by
  intro j hj
  obtain ⟨s, hs⟩ : ∃ s, l[j]? = some s := ⟨_, List.getElem?_eq_getElem hj⟩
  rcases hv.2.2 with h | ⟨b, o, h2, h3, h4⟩
  ·rw [h] at hj; cases hj
  ·exact ⟨s, hs, hsh s (List.mem_of_getElem? hs), h1 s (List.mem_of_getElem? hs), b, o, h2, h3, h4 j s hs⟩
 have hdr : tot (bl (l.map tl1)) ≤ 10000000 := by
  rw [bl_tl1]
  exact Nat.le_trans (tot_map _ (fun a => by simp) _) ht
 have hjl := joinL_len (bl (l.map tl1))
 have hjn : joinL ((bl l).map (·.drop 1)) = joinL (bl (l.map tl1)) := by rw [bl_tl1]
 rw [hjn]
 obtain ⟨n, hnn⟩ : ∃ n, n = l.length := ⟨_, rfl⟩
 have hn0 : 0 < n := by rw [hnn]; exact List.length_pos_iff.2 hne
 rw [← hnn] at hlen hnc hin ⊢
 have hD := fun W => pdecode_any ⟨(joinL (bl (l.map tl1))).toArray⟩ W (by simp [ByteArray.size]; omega)
 have HIN := Lib.hid hin
 have HNN := Lib.hid hnn
 have HD := Lib.hid hD
 have HDR := Lib.hid hdr
 have K0 := Known.made w 44 #[.int .i64 0, .int .i64 0, .string ⟨#[]⟩, .slice none 0 0, .slice none 0 0]
 have HK0 := Lib.hid K0
 clear hin hnn hv hD hdr hjn K0 hne h1 hsh
 go_enter Tryz.func69, Tryz.ntmps69
 go_wp2_with fail
 refine name_wb ?_
 intro W0 hW0
 have hsz0 : W0.heap.size = w.heap.size + 1 := by rw [hW0]; simp
 have hb0 : Below w.heap.size w W0 := by rw [hW0]; exact below_new0 _ _
 have hk0 : Known W0 w.heap.size 44 #[.int .i64 0, .int .i64 0, .string ⟨#[]⟩, .slice none 0 0, .slice none 0 0] := by rw [hW0]; exact HK0.out
 have HB0 := Lib.hid hb0
 have HK := Lib.hid hk0
 clear hW0 hb0 hk0 HK0
 go_loopg [3, 5, 8] (n + 1) (fun g s3 _ s8 wr => ∃ j : Nat, s8 = .int .i64 j ∧ j ≤ n ∧ n < j + g ∧ Below W0.heap.size W0 wr ∧ txS.own 9 (fun _ => False) W0.heap.size wr s3 ((l.take j).map tl1))
 case atStart => exact ⟨0, rfl, by omega, by omega, Below.refl _ _, by rw [List.take_zero]; exact Shp.own.nil⟩
 case round =>
  obtain ⟨j, rfl, hj, hg, hb, hown⟩ := hrel
  have hz := hb.size
  by_cases hjn : j < n
  ·obtain ⟨s, hs1, hs2, hs3, b, o, rfl, hbl, hs4⟩ := HIN.out j hjn
   have g1 : decide (j < n) = true := decide_eq_true hjn
   have hbW : Below w.heap.size w wr := below_then HB0.out hb
   have d1 := (hbW.cell (p := ⟨b, o + j, none⟩) hbl).trans hs4
   have hbw : b < wr.heap.size := by omega
   have hT : s.extract 1 s.size = tl1 s := by
    refine bytes_ext ?_
    rw [Lib.extract_to_end]
    rfl
   have hoA := hown.below (below_new0 wr (.cells #[.string (tl1 s)] 9))
   have hlen2 : txS.len ((l.take j).map tl1) = j := by show ((l.take j).map tl1).length = j; rw [List.length_map, List.length_take, ← HNN.out]; omega
   have htm := take_more tl1 hs1
   obtain ⟨T, hTT⟩ : ∃ T, tl1 s = T := ⟨_, rfl⟩
   rw [hTT] at hT hoA htm
   have HOA := Lib.hid hoA
   have HLEN := Lib.hid hlen2
   have HTM := Lib.hid htm
   have HB := Lib.hid hb
   have hzW : W0.heap.size ≤ (wr.alloc (.cells #[.string T] 9)).heap.size := by rw [World.size_alloc]; omega
   clear hoA hlen2 htm hTT hs1 hs4 hown hbW hb
   go_wp2_with (at_builtin; go_must (refine append_shp txS tyT _ rfl _ _ rfl HOA.out rfl (src_tx (s := T)) rfl (by rw [HLEN.out]; show (j + 1) * 17 ≤ _; omega) hzW ?_); intro v' w3 O3 hgrow hbel hkd)
   have hbn := hbel W0 (below_then HB.out (below_new0 _ _))
   clear hgrow hbel hkd
   go_roundg (n - j)
   case measure => omega
   case rel => exact ⟨j + 1, by go_num, by omega, by omega, hbn, by rw [HTM.out]; exact O3⟩
  ·have hjn : j = n := by omega
   subst hjn
   have g1 : decide (j < j) = false := by simp
   obtain ⟨p', c', hvv⟩ := hown.form
   have hlen2 : txS.len ((l.take j).map tl1) = j := by show ((l.take j).map tl1).length = j; rw [List.length_map, List.length_take, ← HNN.out]; omega
   rw [hlen2] at hvv
   subst hvv
   have htk : l.take j = l := List.take_of_length_le (by rw [← HNN.out]; exact Nat.le_refl _)
   have h3 := hown.sl
   rw [htk] at h3
   have e : (l.map tl1).length = j := by rw [List.length_map]; exact HNN.out.symm
   have h4 := SL.of_sl (p := p') (c := c') (l := l.map tl1) (by rw [e]; exact h3)
   have h5 : ∃ b o, p' = some ⟨b, o, none⟩ ∧ b < wr.heap.size ∧ ∀ k x, (l.map tl1)[k]? = some x → wr.cell? ⟨b, o + k, none⟩ = some (.string x) := by
    rcases h4.2.2 with h6 | h6
    ·rw [h6] at e; simp at e; omega
    ·exact h6
   obtain ⟨b, o, rfl, hbl, hcc⟩ := h5
   have hJ := pjoin_any b o c' (l.map tl1) wr hcc hbl (by rw [e]; have := h4.1; rw [e] at this; exact this) (by have := HDR.out; omega)
   rw [e] at hJ
   have hKr := HK.out.on hb
   have hXl : w.heap.size < W0.heap.size := by omega
   obtain ⟨J, hJJ⟩ : ∃ J : ByteArray, ⟨(joinL (bl (l.map tl1))).toArray⟩ = J := ⟨_, rfl⟩
   rw [hJJ] at hJ
   have hDe := HD.out
   rw [hJJ] at hDe
   obtain ⟨E, hE⟩ : ∃ E : ByteArray, ⟨(dec (joinL (bl (l.map tl1)))).toArray⟩ = E := ⟨_, rfl⟩
   rw [hE] at hDe
   have HE := Lib.hid hE
   clear hE
   have HJ := Lib.hid hJ
   have HDE := Lib.hid hDe
   have HKR := Lib.hid hKr
   have HB := Lib.hid hb
   clear hJ hDe hKr hb h3 h4 hown hcc htk hJJ HD
   go_wp2_with fail
   refine HJ.out.mono ?_
   rintro e w3 ⟨rfl, hb3⟩
   go_wp2_with fail
   refine (HDE.out _).mono ?_
   rintro e w4 ⟨rfl, hb4⟩
   have K4 := (HKR.out.on hb3).on hb4
   obtain ⟨x0, x1, x2, x3, x4⟩ := K4.five
   have f0 := K4.free 0
   have f1 := K4.free 1
   have f2 := K4.free 2
   have f3 := K4.free 3
   have f4 := K4.free 4
   have hl4 := K4.lt
   have hb5 := below_then (below_then HB0.out HB.out) (below_then hb3 hb4)
   have HK4 := Lib.hid K4
   clear K4 hb3 hb4
   go_wp2_with fail
   have K5 := ((((HK4.out.put 0 (.int .i64 6)).put 1 (.int .i64 0)).put 2 (.string E)).put 3 (.slice none 0 0)).put 4 (.slice none 0 0)
   obtain ⟨y0, y1, y2, y3, y4⟩ := K5.five
   exact bodyPost_ret (v := .agg #[.int .i64 6, .int .i64 0, .string E, .slice none 0 0, .slice none 0 0]) (by simp [results, Tryz.results69, go_sem, y0, y1, y2, y3, y4]) rfl
    ⟨by rw [HE.out], ((((hb5.setCell (Nat.le_refl _) _).setCell (Nat.le_refl _) _).setCell (Nat.le_refl _) _).setCell (Nat.le_refl _) _).setCell (Nat.le_refl _) _⟩
end Go.Proofs.YthieinfonomeeaaGreatDoor
