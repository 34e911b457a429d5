/-
  The claim's own texts, packed. Conditions: those typed in each theorem.
-/
import Derived.Test.YtcklofamaooegaaGreatDoorZHabt
import Derived.Test.YtcklofamaooegaaGreatDoorZHca
namespace Go.Proofs.YtcklofamaooegaaGreatDoor
open Go.RowKit
set_option linter.unusedVariables false
attribute [local go_sem ↓] Go.wp_at_zero Go.wp_at_succ
def tw20 : List ByteArray := [⟨#[]⟩, ⟨#[49]⟩, ⟨#[45, 49]⟩, ⟨#[32, 50, 32]⟩, ⟨#[97, 98, 99, 32, 100, 101, 102]⟩, ⟨#[48]⟩, ⟨#[51, 46, 48]⟩, ⟨#[49, 46, 53]⟩, ⟨#[45]⟩, ⟨#[97]⟩, ⟨#[98, 32, 99]⟩, ⟨#[50, 48, 50, 52, 45, 48, 50, 45, 50, 57]⟩, ⟨#[50, 48, 48, 48, 45, 48, 49, 45, 48, 49, 32, 49, 50, 58, 51, 48]⟩, ⟨#[89, 45, 109, 45, 100]⟩, ⟨#[100, 97, 121]⟩, ⟨#[109, 111, 110, 116, 104]⟩, ⟨#[49, 43, 50, 42, 51]⟩, ⟨#[120]⟩, ⟨#[195, 169, 195, 169]⟩, ⟨#[57, 57]⟩]
theorem tw20_small : ∀ x ∈ tw20, x.size ≤ 300 := fun x hx => by
 unfold tw20 at hx
 simp only [List.mem_cons, List.not_mem_nil, or_false] at hx
 rcases hx with rfl | rfl | rfl | rfl | rfl | rfl | rfl | rfl | rfl | rfl | rfl | rfl | rfl | rfl | rfl | rfl | rfl | rfl | rfl | rfl <;> decide
theorem tapeMade {w : World} {a : Option Addr} {len cap : Nat} {zs : List Int} (hz : IsInts w a len cap zs) : TP w.heap.size (w.alloc (.cells #[.slice a len cap, .int .i64 0] 66)) := by
 refine ⟨a, len, cap, 0, zs, Known.made w _ _, ?_, Nat.zero_le _, ?_⟩
 ·rcases hz with h | ⟨x, h1, h2, h3, h4, h5, h6⟩
  ·exact .inl h
  ·refine .inr ⟨x, h1, h2, h3, h4, fun i hi => ?_, h6⟩
   have hl := World.block_lt_of_cell? w _ (h5 i hi)
   rw [World.cell?_alloc_lt _ _ _ hl]
   exact h5 i hi
 ·intro x hx hp
  rcases hz with ⟨rfl, _⟩ | ⟨y, h1, h2, h3, h4, h5, h6⟩
  ·cases hx
  ·obtain rfl : x = y := Option.some.inj (hx.symm.trans h1)
   have hl := World.block_lt_of_cell? w _ (h5 0 (by omega))
   rw [add_block] at hl
   exact hl
theorem TP.keep {g B : Nat} {w w' : World} (h : TP g w) (s : Below B w w') (hg : g < B) : TP g w' := by
 obtain ⟨a, len, cap, k, zs, h1, h2, h3, h4⟩ := h
 exact ⟨a, len, cap, k, zs, h1.below s hg, h2.keep (fun x i hx hp => s.cell (p := x.add i) (by have := h4 x hx hp; rw [add_block]; omega)), h3, h4⟩
theorem own_tape {g B : Nat} {w w' : World} {v : Value} {L : List ByteArray} (h : txS.own 9 (fun _ => False) B w v L) (s : Step g w w') (hg : g < B) : txS.own 9 (fun _ => False) B w' v L := by
 have hl := h.lt
 obtain ⟨xs, h1, h2⟩ := h
 exact ⟨xs, own_on h1 fun k hk => s.rest k (by have := hl k hk; omega) (hl k hk).2, h2⟩
theorem Known.tape {g k : Nat} {w w' : World} {t : TypeId} {cs : Array Value} (h : Known w k t cs) (s : Step g w w') (hg : g < k) : Known w' k t cs := (s.rest k hg h.lt).trans h
set_option maxRecDepth 10000 in
set_option maxHeartbeats 1000000 in
theorem rnames_at (w : World) : Calls Tryz.prog 15 #[] w fun e w' => e = .returned (.slice (some ⟨w.heap.size, 0, none⟩) 17 17) ∧ Known w' w.heap.size 9 (tcs nms).toArray ∧ Below w.heap.size w w' := by
 go_enter Tryz.func15, Tryz.ntmps15
 go_wp2_with fail
 go_ret
 exact ⟨rfl, Known.made w _ _, below_new0 _ _⟩
theorem tapeNew (a : Option Addr) (len cap : Nat) (w : World) :
  Calls Tryz.prog 16 #[.slice a len cap] w fun e w' => e = .returned (.pointer (some ⟨w.heap.size, 0, none⟩)) ∧ w.alloc (.cells #[.slice a len cap, .int .i64 0] 66) = w' := by
 go_enter Tryz.func16, Tryz.ntmps16
 go_wp2_with fail
 go_ret
 exact ⟨rfl, rfl⟩
theorem tape20 (g : Nat) (w : World) (h : TP g w) : Calls Tryz.prog 18 #[.pointer (some ⟨g, 0, none⟩), .slice (some ⟨w.heap.size, 0, none⟩) 20 20] (w.alloc (.cells #[.string ⟨#[]⟩, .string ⟨#[49]⟩, .string ⟨#[45, 49]⟩, .string ⟨#[32, 50, 32]⟩, .string ⟨#[97, 98, 99, 32, 100, 101, 102]⟩, .string ⟨#[48]⟩, .string ⟨#[51, 46, 48]⟩, .string ⟨#[49, 46, 53]⟩, .string ⟨#[45]⟩, .string ⟨#[97]⟩, .string ⟨#[98, 32, 99]⟩, .string ⟨#[50, 48, 50, 52, 45, 48, 50, 45, 50, 57]⟩, .string ⟨#[50, 48, 48, 48, 45, 48, 49, 45, 48, 49, 32, 49, 50, 58, 51, 48]⟩, .string ⟨#[89, 45, 109, 45, 100]⟩, .string ⟨#[100, 97, 121]⟩, .string ⟨#[109, 111, 110, 116, 104]⟩, .string ⟨#[49, 43, 50, 42, 51]⟩, .string ⟨#[120]⟩, .string ⟨#[195, 169, 195, 169]⟩, .string ⟨#[57, 57]⟩] 9)) fun e w' => ∃ t, e = .returned (.string t) ∧ t ∈ tw20 ∧ Step g w w' ∧ TP g w' := by
 have hg := h.lt
 have hb := below_new0 w (.cells (tcs tw20).toArray 9)
 have hL : Strs (w.alloc (.cells (tcs tw20).toArray 9)) w.heap.size tw20 := Strs.made w 9 tw20
 have hO := tapeOf g w.heap.size tw20 (w.alloc (.cells (tcs tw20).toArray 9)) (by decide) (by decide) hL (by rw [World.size_alloc]; omega) (by omega) (h.below hb)
 exact hO.mono fun e w' ⟨t, a, b, s, tp⟩ => ⟨t, a, b, (Step.of_below hb (by omega)).trans s, tp⟩
set_option maxRecDepth 10000 in
set_option maxHeartbeats 8000000 in
theorem law_built (a : Option Addr) (len cap : Nat) (zs : List Int) (w : World) (hz : IsInts w a len cap zs) (he : Env w) :
  Calls Tryz.prog 5 #[.slice a len cap] w fun e w' => e = .returned (.bool true) ∧ Below w.heap.size w w' := by
 have HK := Lib.hid (fun W (hb : Below w.heap.size w W) => known11_any W (he.below hb))
 have HE := Lib.hid he
 have hN := tapeNew a len cap w
 have hT := tapeMade hz
 obtain ⟨w0, hw0⟩ : ∃ w0, w0 = w.alloc (.cells #[.slice a len cap, .int .i64 0] 66) := ⟨_, rfl⟩
 obtain ⟨g, hg⟩ : ∃ g, g = w.heap.size := ⟨_, rfl⟩
 have hB0 : Below g w w0 := by rw [hw0, hg]; exact below_new0 _ _
 have hz0 : w0.heap.size = g + 1 := by rw [hw0, World.size_alloc, hg]
 rw [← hw0, ← hg] at hN hT
 rw [← hg] at HK ⊢
 have HB0 := Lib.hid hB0
 have HT := Lib.hid hT
 have HEB : Hid (∀ W, Below g w W → Env W) := Lib.hid (fun W h => HE.out.below (by rw [← hg]; exact h))
 clear hz he hT hw0 hB0 hg HE
 go_enter Tryz.func5, Tryz.ntmps5
 go_wp2_with fail
 refine hN.mono ?_
 rintro E w1 ⟨rfl, rfl⟩
 clear hN
 go_wp2_with fail
 refine (rnames_at w0).mono ?_
 rintro E w2 ⟨rfl, hkn, hb2⟩
 have tp2 := HT.out.below hb2
 have HB2 := Lib.hid (HB0.out.trans (hb2.mono (by omega)))
 have hsz2 : g + 1 ≤ w2.heap.size := by have := hb2.size; omega
 have hnx := tapeNext g 17 w2 (by omega) (by omega) tp2
 have HKN := Lib.hid hkn
 have HNX := Lib.hid hnx
 clear hkn hb2 tp2 hnx HT
 go_wp2_with fail
 refine HNX.out.mono ?_
 rintro E w3 ⟨r, rfl, hr, st3, tp3⟩
 have hkn3 := HKN.out.tape st3 (by omega)
 obtain ⟨N, hNr⟩ : ∃ N, nms[r]? = some N := ⟨_, List.getElem?_eq_getElem hr⟩
 have d0 : w3.cell? ⟨w0.heap.size, r, none⟩ = some (.string N) := by
  rw [hkn3.cell]; unfold tcs; rw [List.getElem?_toArray, List.getElem?_map, hNr]; rfl
 have hlt3 := hkn3.lt
 rw [hz0] at d0 hlt3
 have hsz3 : g + 1 ≤ w3.heap.size := Nat.le_trans hsz2 st3.below.size
 have HB3 := Lib.hid (HB2.out.trans st3.below)
 have HTP3 := Lib.hid tp3
 clear hkn3 hNr st3 tp3 HNX HKN HB2
 go_wp2_with fail
 go_loopg [6, 7] 7 (fun c s6 s7 wr => ∃ (i : Nat) (L : List ByteArray), s7 = .int .i64 i ∧ i ≤ 5 ∧ 6 < i + c ∧ L.length = i ∧ (∀ x ∈ L, x.size ≤ 300) ∧ txS.own 9 (fun _ => False) (g + 1) wr s6 L ∧ TP g wr ∧ g + 1 ≤ wr.heap.size ∧ Below g w wr)
 case atStart => exact ⟨0, [], rfl, by omega, by omega, rfl, (fun x hx => by cases hx), Shp.own.nil, HTP3.out, hsz3, HB3.out⟩
 case round =>
  obtain ⟨i, L, rfl, hi, hc, hLi, hLs, how, tp, hszr, hbr⟩ := hrel
  have hnx := tapeNext g 6 wr (by omega) (by omega) tp
  have HNX := Lib.hid hnx
  have HOW := Lib.hid how
  have HBR := Lib.hid hbr
  have HLI := Lib.hid hLi
  have HLS := Lib.hid hLs
  clear hnx how tp hbr hLi hLs d0 hlt3
  go_wp2_with fail
  refine HNX.out.mono ?_
  rintro E w4 ⟨r6, rfl, hr6, st4, tp4⟩
  have how4 := own_tape HOW.out st4 (by omega)
  have hsz4 : g + 1 ≤ w4.heap.size := Nat.le_trans hszr st4.below.size
  have HB4 := Lib.hid (HBR.out.trans st4.below)
  have HOW4 := Lib.hid how4
  have HTP4 := Lib.hid tp4
  clear how4 st4 tp4 HNX HOW HBR
  by_cases hlt : i < r6
  ·have g1 : decide (i < r6) = true := decide_eq_true hlt
   have h20 := tape20 g w4 HTP4.out
   have H20 := Lib.hid h20
   clear h20
   go_wp2_with fail
   refine H20.out.mono ?_
   rintro E w5 ⟨t, rfl, ht, st5, tp5⟩
   have how5 := own_tape HOW4.out st5 (by omega)
   have hsz5 : g + 1 ≤ w5.heap.size := Nat.le_trans hsz4 st5.below.size
   have HB5 := Lib.hid (HB4.out.trans st5.below)
   have hoA := how5.below (below_new0 w5 (.cells #[.string t] 9))
   have HOA := Lib.hid hoA
   have HTP5 := Lib.hid tp5
   have hts := tw20_small t ht
   have hzW : g + 1 ≤ (w5.alloc (.cells #[.string t] 9)).heap.size := by rw [World.size_alloc]; omega
   have hlen : txS.len L = i := HLI.out
   have HLEN := Lib.hid hlen
   clear how5 hoA st5 tp5 ht hlen H20
   go_wp2_with (at_builtin; go_must (refine append_shp txS tyT _ rfl _ _ rfl HOA.out rfl (src_tx (s := t)) rfl (by rw [HLEN.out]; show (i + 1) * 17 ≤ _; omega) hzW ?_); intro v' w6 O6 hgrow hbel hkd)
   have hb56 : Below (g + 1) w5 w6 := hbel w5 ((below_new0 w5 _).mono hsz5)
   have O7 : txS.own 9 (fun _ => False) (g + 1) w6 v' (L ++ [t]) := O6
   have tp6 := HTP5.out.keep hb56 (by omega)
   have hbw6 := HB5.out.trans (hb56.mono (by omega))
   have hsz6 : g + 1 ≤ w6.heap.size := Nat.le_trans hsz5 hb56.size
   clear hgrow hbel hkd O6
   go_roundg (6 - i)
   case measure => omega
   case rel => exact ⟨i + 1, L ++ [t], by go_num, by omega, by omega, by rw [List.length_append, HLI.out]; rfl, (fun x hx => by
    rcases List.mem_append.1 hx with h | h
    ·exact HLS.out x h
    ·rw [List.mem_singleton.1 h]; exact hts), O7, tp6, hsz6, hbw6⟩
  ·have g1 : decide (i < r6) = false := decide_eq_false hlt
   obtain ⟨S, z, hP, hQ⟩ := two_calls N L ⟨by rw [HLI.out]; omega, HLS.out⟩
   obtain ⟨p', c', hvv⟩ := HOW4.out.form
   have hlen : txS.len L = L.length := rfl
   rw [hlen] at hvv
   subst hvv
   have hsl : SL w4 p' c' L := SL.of_sl (by exact HOW4.out.sl)
   have hC := hP w4 p' c' hsl (HEB.out w4 HB4.out)
   have hD := fun W (hb : Below w4.heap.size w4 W) => hQ W p' c' (hsl.below hb)
   have HC := Lib.hid hC
   have HD := Lib.hid hD
   clear hP hQ hlen hsl hC hD HOW4 HTP4
   go_wp2_with fail
   refine HC.out.mono ?_
   rintro E w5 ⟨rfl, hb5⟩
   go_wp2_with fail
   refine (HD.out w5 hb5).mono ?_
   rintro E w6 ⟨rfl, hb6⟩
   have hbx := HB4.out.trans ((below_then hb5 hb6).mono (by omega))
   have hs6 : w4.heap.size ≤ w6.heap.size := Nat.le_trans hb5.size hb6.size
   clear hb5 hb6
   go_wp2_with fail
   refine (HK.out _ hbx).mono ?_
   rintro E w7 ⟨rfl, hb7⟩
   go_wp2_with fail
   go_ret
   exact ⟨rfl, hbx.trans (hb7.mono (by omega))⟩
end Go.Proofs.YtcklofamaooegaaGreatDoor
