/-
  The claim's own texts, packed. Conditions: those typed in each theorem.
-/
import Derived.Test.YtcklofamaooegaaGreatDoorZKabr
import Derived.Test.YtcklofamaooegaaGreatDoorZKabp
import Derived.Test.YtcklofamaooegaaGreatDoorZKabc
import Derived.Test.YtcklofamaooegaaGreatDoorZKabk
import Derived.Test.YtcklofamaooegaaGreatDoorZKabl
import Derived.Test.YtcklofamaooegaaGreatDoorZKabn
import Derived.Test.YtcklofamaooegaaGreatDoorZKabq
set_option maxHeartbeats 4000000
set_option maxRecDepth 10000
set_option linter.unusedVariables false
namespace Go.Proofs.YtcklofamaooegaaGreatDoor
open Go.RowKit
attribute [local go_sem ↓] Go.wp_at_zero Go.wp_at_succ
def TextP (N : ByteArray) (l : List ByteArray) (S : ByteArray) (z : Int) : Prop := ∀ (g : Nat) (w0 w : World) (p : Option Addr) (c : Nat) (e : Int), St g w0 w p c l e →
 Calls Tryz.prog 33 #[.pointer (some ⟨g, 0, none⟩), .string N] w fun E w' => E = .returned (.string S) ∧ St g w0 w' p c l (fstE e z)
theorem itoa_nat_any (n : Nat) (w : World) (h : n ≤ 1000000) (ht : Env w) : Calls Tryz.prog 59 #[.int .i64 (n : Int)] w fun e w' => e = .returned (.string ⟨(Lib.itoa n).toArray⟩) ∧ Below w.heap.size w w' := itoa_any n w (by omega) (by omega) ht.1
theorem text_len (l : List ByteArray) (hl : Sml l) : TextP ⟨#[108, 101, 110]⟩ l (⟨(Lib.itoa (nR (argV l 0) : Nat)).toArray⟩) (0) := by
 intro g w0 w p c e h0
 have hA := fun (i : Nat) (hi : i ≤ 1000) W e (h : St g w0 W p c l e) => st_arg i hi h hl
 have hR := fun (i : Nat) (hi : i ≤ 1000) W e (h : St g w0 W p c l e) => st_raw i hi h hl
 have hsz := argV_sz hl 0
 have hs1 := rawV_sz hl 1
 have hs2 := rawV_sz hl 2
 have hn := nR_le (argV l 0)
 have hL := fun W => slength_any (argV l 0) W (by omega)
 have hI := fun W (h : Env W) => itoa_nat_any (nR (argV l 0)) W (by omega) h
 generalize nR (argV l 0) = k at *
 have hA0 := hA 0 (by omega)
 have hR1 := hR 1 (by omega)
 have hR2 := hR 2 (by omega)
 have HA0 := Lib.hid hA0
 have HR1 := Lib.hid hR1
 have HR2 := Lib.hid hR2
 clear hA hR hA0 hR1 hR2
 generalize argV l 0 = s at *
 go_enter Tryz.func33, Tryz.ntmps33
 go_wp2_with fail
 refine (HA0.out _ _ h0).mono ?_
 rintro E w1 ⟨rfl, h1⟩
 go_wp2_with fail
 refine (hL _).mono ?_
 rintro E w2 ⟨rfl, hb2⟩
 have h2 := h1.on hb2
 clear hb2
 go_wp2_with fail
 refine (hI _ h2.env).mono ?_
 rintro E w3 ⟨rfl, hb3⟩
 have h3 := h2.on hb3
 clear hb3
 go_wp2_with fail
 go_ret
 exact ⟨rfl, by rw [fstE_zero]; exact h3⟩
theorem text_sub (l : List ByteArray) (hl : Sml l) (n z m y : Int) (hI : IntP l 1 0 n z) (hJ : IntP l 2 32768 m y) (hn : I64 n) (hm : I64 m) : TextP ⟨#[115, 117, 98]⟩ l (slcS (argV l 0) n m) (fstE z y) := by
 intro g w0 w p c e h0
 have hA := fun (i : Nat) (hi : i ≤ 1000) W e (h : St g w0 W p c l e) => st_arg i hi h hl
 have hR := fun (i : Nat) (hi : i ≤ 1000) W e (h : St g w0 W p c l e) => st_raw i hi h hl
 have hsz := argV_sz hl 0
 have hs1 := rawV_sz hl 1
 have hs2 := rawV_sz hl 2
 have hI := fun W e (h : St g w0 W p c l e) => st_int hI h
 have hJ := fun W e (h : St g w0 W p c l e) => st_int hJ h
 have hC := fun W => sslice_any (argV l 0) n m W (by omega) hn hm
 have hA0 := hA 0 (by omega)
 have hR1 := hR 1 (by omega)
 have hR2 := hR 2 (by omega)
 have HA0 := Lib.hid hA0
 have HR1 := Lib.hid hR1
 have HR2 := Lib.hid hR2
 clear hA hR hA0 hR1 hR2
 generalize slcS (argV l 0) n m = V at *
 generalize argV l 0 = s at *
 go_enter Tryz.func33, Tryz.ntmps33
 go_wp2_with fail
 refine (HA0.out _ _ h0).mono ?_
 rintro E w1 ⟨rfl, h1⟩
 go_wp2_with fail
 refine (hI _ _ h1).mono ?_
 rintro E w2 ⟨rfl, h2⟩
 go_wp2_with fail
 refine (hJ _ _ h2).mono ?_
 rintro E w3 ⟨rfl, h3⟩
 go_wp2_with fail
 refine (hC _).mono ?_
 rintro E w4 ⟨rfl, hb4⟩
 have h4 := h3.on hb4
 clear hb4
 go_wp2_with fail
 go_ret
 exact ⟨rfl, by rw [← fstE_assoc]; exact h4⟩
theorem text_pos_yes (l : List ByteArray) (hl : Sml l) (n z : Int) (hI : IntP l 2 0 n z) (hn : I64 n) (k : Nat) (hk : fndN (argV l 0) (rawV l 1) (max 0 n).toNat = (k : Int)) : TextP ⟨#[112, 111, 115]⟩ l (⟨(Lib.itoa (k : Nat)).toArray⟩) (z) := by
 intro g w0 w p c e h0
 have hA := fun (i : Nat) (hi : i ≤ 1000) W e (h : St g w0 W p c l e) => st_arg i hi h hl
 have hR := fun (i : Nat) (hi : i ≤ 1000) W e (h : St g w0 W p c l e) => st_raw i hi h hl
 have hsz := argV_sz hl 0
 have hs1 := rawV_sz hl 1
 have hs2 := rawV_sz hl 2
 have hI := fun W e (h : St g w0 W p c l e) => st_int hI h
 have hC := fun W (h : Env W) => sfind_any (argV l 0) (rawV l 1) n W (by omega) (by omega) hn h.2
 have hbd := fndN_bd (argV l 0) (rawV l 1) (max 0 n).toNat
 have hIt := fun W (h : Env W) => itoa_nat_any k W (by omega) h
 rw [hk] at hC hbd
 have g1 : decide ((0 : Int) ≤ (k : Int)) = true := decide_eq_true (by omega)
 have hA0 := hA 0 (by omega)
 have hR1 := hR 1 (by omega)
 have hR2 := hR 2 (by omega)
 have HA0 := Lib.hid hA0
 have HR1 := Lib.hid hR1
 have HR2 := Lib.hid hR2
 clear hA hR hA0 hR1 hR2
 generalize fndN (argV l 0) (rawV l 1) (max 0 n).toNat = V at *
 generalize argV l 0 = s at *
 generalize rawV l 1 = r1 at *
 go_enter Tryz.func33, Tryz.ntmps33
 go_wp2_with fail
 refine (HA0.out _ _ h0).mono ?_
 rintro E w1 ⟨rfl, h1⟩
 go_wp2_with fail
 refine (HR1.out _ _ h1).mono ?_
 rintro E w2 ⟨rfl, h2⟩
 go_wp2_with fail
 refine (hI _ _ h2).mono ?_
 rintro E w3 ⟨rfl, h3⟩
 go_wp2_with fail
 refine (hC _ h3.env).mono ?_
 rintro E w4 ⟨rfl, hb4⟩
 have h4 := h3.on hb4
 clear hb4
 go_wp2_with fail
 refine (hIt _ h4.env).mono ?_
 rintro E w5 ⟨rfl, hb5⟩
 have h5 := h4.on hb5
 clear hb5
 go_wp2_with fail
 go_ret
 exact ⟨rfl, by exact h5⟩
theorem text_pos_no (l : List ByteArray) (hl : Sml l) (n z : Int) (hI : IntP l 2 0 n z) (hn : I64 n) (hk : fndN (argV l 0) (rawV l 1) (max 0 n).toNat = -1) : TextP ⟨#[112, 111, 115]⟩ l (⟨#[]⟩) (z) := by
 intro g w0 w p c e h0
 have hA := fun (i : Nat) (hi : i ≤ 1000) W e (h : St g w0 W p c l e) => st_arg i hi h hl
 have hR := fun (i : Nat) (hi : i ≤ 1000) W e (h : St g w0 W p c l e) => st_raw i hi h hl
 have hsz := argV_sz hl 0
 have hs1 := rawV_sz hl 1
 have hs2 := rawV_sz hl 2
 have hI := fun W e (h : St g w0 W p c l e) => st_int hI h
 have hC := fun W (h : Env W) => sfind_any (argV l 0) (rawV l 1) n W (by omega) (by omega) hn h.2
 rw [hk] at hC
 clear hk
 have hA0 := hA 0 (by omega)
 have hR1 := hR 1 (by omega)
 have hR2 := hR 2 (by omega)
 have HA0 := Lib.hid hA0
 have HR1 := Lib.hid hR1
 have HR2 := Lib.hid hR2
 clear hA hR hA0 hR1 hR2
 generalize argV l 0 = s at *
 generalize rawV l 1 = r1 at *
 go_enter Tryz.func33, Tryz.ntmps33
 go_wp2_with fail
 refine (HA0.out _ _ h0).mono ?_
 rintro E w1 ⟨rfl, h1⟩
 go_wp2_with fail
 refine (HR1.out _ _ h1).mono ?_
 rintro E w2 ⟨rfl, h2⟩
 go_wp2_with fail
 refine (hI _ _ h2).mono ?_
 rintro E w3 ⟨rfl, h3⟩
 go_wp2_with fail
 refine (hC _ h3.env).mono ?_
 rintro E w4 ⟨rfl, hb4⟩
 have h4 := h3.on hb4
 clear hb4
 go_wp2_with fail
 go_ret
 exact ⟨rfl, by exact h4⟩
theorem text_occurs (l : List ByteArray) (hl : Sml l) : TextP ⟨#[111, 99, 99, 117, 114, 115]⟩ l (⟨(Lib.itoa ((occS (argV l 0) (rawV l 1)).length : Nat)).toArray⟩) (0) := by
 intro g w0 w p c e h0
 have hA := fun (i : Nat) (hi : i ≤ 1000) W e (h : St g w0 W p c l e) => st_arg i hi h hl
 have hR := fun (i : Nat) (hi : i ≤ 1000) W e (h : St g w0 W p c l e) => st_raw i hi h hl
 have hsz := argV_sz hl 0
 have hs1 := rawV_sz hl 1
 have hs2 := rawV_sz hl 2
 have hn := occS_len (argV l 0) (rawV l 1)
 have hL := fun W (h : Env W) => scount_any (argV l 0) (rawV l 1) W (by omega) (by omega) h.2
 have hI := fun W (h : Env W) => itoa_nat_any (occS (argV l 0) (rawV l 1)).length W (by omega) h
 generalize (occS (argV l 0) (rawV l 1)).length = k at *
 have hA0 := hA 0 (by omega)
 have hR1 := hR 1 (by omega)
 have hR2 := hR 2 (by omega)
 have HA0 := Lib.hid hA0
 have HR1 := Lib.hid hR1
 have HR2 := Lib.hid hR2
 clear hA hR hA0 hR1 hR2
 generalize argV l 0 = s at *
 generalize rawV l 1 = r1 at *
 go_enter Tryz.func33, Tryz.ntmps33
 go_wp2_with fail
 refine (HA0.out _ _ h0).mono ?_
 rintro E w1 ⟨rfl, h1⟩
 go_wp2_with fail
 refine (HR1.out _ _ h1).mono ?_
 rintro E w2 ⟨rfl, h2⟩
 go_wp2_with fail
 refine (hL _ h2.env).mono ?_
 rintro E w3 ⟨rfl, hb3⟩
 have h3 := h2.on hb3
 clear hb3
 go_wp2_with fail
 refine (hI _ h3.env).mono ?_
 rintro E w4 ⟨rfl, hb4⟩
 have h4 := h3.on hb4
 clear hb4
 go_wp2_with fail
 go_ret
 exact ⟨rfl, by rw [fstE_zero]; exact h4⟩
theorem text_replace (l : List ByteArray) (hl : Sml l) (n z : Int) (hI : IntP l 3 (-1) n z) (hn : I64 n) : TextP ⟨#[114, 101, 112, 108, 97, 99, 101]⟩ l ((repV (argV l 0) (rawV l 1) (rawV l 2) n).1) (fstE z (repV (argV l 0) (rawV l 1) (rawV l 2) n).2) := by
 intro g w0 w p c e h0
 have hA := fun (i : Nat) (hi : i ≤ 1000) W e (h : St g w0 W p c l e) => st_arg i hi h hl
 have hR := fun (i : Nat) (hi : i ≤ 1000) W e (h : St g w0 W p c l e) => st_raw i hi h hl
 have hsz := argV_sz hl 0
 have hs1 := rawV_sz hl 1
 have hs2 := rawV_sz hl 2
 have hI := fun W e (h : St g w0 W p c l e) => st_int hI h
 have hC := fun W (h : Env W) => sreplace_any (argV l 0) (rawV l 1) (rawV l 2) n W (by omega) (by omega) (by omega) hn h.2
 have hA0 := hA 0 (by omega)
 have hR1 := hR 1 (by omega)
 have hR2 := hR 2 (by omega)
 have HA0 := Lib.hid hA0
 have HR1 := Lib.hid hR1
 have HR2 := Lib.hid hR2
 clear hA hR hA0 hR1 hR2
 generalize repV (argV l 0) (rawV l 1) (rawV l 2) n = V at *
 generalize argV l 0 = s at *
 generalize rawV l 1 = r1 at *
 generalize rawV l 2 = r2 at *
 go_enter Tryz.func33, Tryz.ntmps33
 go_wp2_with fail
 refine (HA0.out _ _ h0).mono ?_
 rintro E w1 ⟨rfl, h1⟩
 go_wp2_with fail
 refine (hI _ _ h1).mono ?_
 rintro E w2 ⟨rfl, h2⟩
 go_wp2_with fail
 refine (HR1.out _ _ h2).mono ?_
 rintro E w3 ⟨rfl, h3⟩
 go_wp2_with fail
 refine (HR2.out _ _ h3).mono ?_
 rintro E w4 ⟨rfl, h4⟩
 go_wp2_with fail
 refine (hC _ h4.env).mono ?_
 rintro E w5 ⟨rfl, hb5⟩
 have h5 := h4.on hb5
 clear hb5
 go_wp2_with fail
 refine (st_result _ _ h5).mono ?_
 rintro E w6 ⟨rfl, h6⟩
 go_wp2_with fail
 go_ret
 exact ⟨rfl, by rw [← fstE_assoc]; exact h6⟩
theorem text_padleft0 (l : List ByteArray) (hl : Sml l) (n z : Int) (hI : IntP l 1 0 n z) (hn : I64 n) (hf : (rawV l 2).size = 0) : TextP ⟨#[112, 97, 100, 108, 101, 102, 116]⟩ l ((padV true (argV l 0) n ⟨#[48]⟩).1) (fstE z (padV true (argV l 0) n ⟨#[48]⟩).2) := by
 intro g w0 w p c e h0
 have hA := fun (i : Nat) (hi : i ≤ 1000) W e (h : St g w0 W p c l e) => st_arg i hi h hl
 have hR := fun (i : Nat) (hi : i ≤ 1000) W e (h : St g w0 W p c l e) => st_raw i hi h hl
 have hsz := argV_sz hl 0
 have hs1 := rawV_sz hl 1
 have hs2 := rawV_sz hl 2
 have hI := fun W e (h : St g w0 W p c l e) => st_int hI h
 have hC := fun W => spadleft_any (argV l 0) ⟨#[48]⟩ n W (by omega) (by decide) hn
 have hA0 := hA 0 (by omega)
 have hR1 := hR 1 (by omega)
 have hR2 := hR 2 (by omega)
 rw [arg_empty hf] at hR2
 have HA0 := Lib.hid hA0
 have HR1 := Lib.hid hR1
 have HR2 := Lib.hid hR2
 clear hA hR hA0 hR1 hR2 hs2 hf
 generalize padV true (argV l 0) n ⟨#[48]⟩ = V at *
 generalize argV l 0 = s at *
 go_enter Tryz.func33, Tryz.ntmps33
 go_wp2_with fail
 refine (HA0.out _ _ h0).mono ?_
 rintro E w1 ⟨rfl, h1⟩
 go_wp2_with fail
 refine (hI _ _ h1).mono ?_
 rintro E w2 ⟨rfl, h2⟩
 go_wp2_with fail
 refine (HR2.out _ _ h2).mono ?_
 rintro E w3 ⟨rfl, h3⟩
 go_wp2_with fail
 refine (hC _).mono ?_
 rintro E w4 ⟨rfl, hb4⟩
 have h4 := h3.on hb4
 clear hb4
 go_wp2_with fail
 refine (st_result _ _ h4).mono ?_
 rintro E w5 ⟨rfl, h5⟩
 go_wp2_with fail
 go_ret
 exact ⟨rfl, by rw [← fstE_assoc]; exact h5⟩
theorem text_padleft1 (l : List ByteArray) (hl : Sml l) (n z : Int) (hI : IntP l 1 0 n z) (hn : I64 n) (hf : 0 < (rawV l 2).size) : TextP ⟨#[112, 97, 100, 108, 101, 102, 116]⟩ l ((padV true (argV l 0) n (rawV l 2)).1) (fstE z (padV true (argV l 0) n (rawV l 2)).2) := by
 intro g w0 w p c e h0
 have hA := fun (i : Nat) (hi : i ≤ 1000) W e (h : St g w0 W p c l e) => st_arg i hi h hl
 have hR := fun (i : Nat) (hi : i ≤ 1000) W e (h : St g w0 W p c l e) => st_raw i hi h hl
 have hsz := argV_sz hl 0
 have hs1 := rawV_sz hl 1
 have hs2 := rawV_sz hl 2
 have hI := fun W e (h : St g w0 W p c l e) => st_int hI h
 have hC := fun W => spadleft_any (argV l 0) (rawV l 2) n W (by omega) (by omega) hn
 have hfe : (rawV l 2).toList.isEmpty = false := isEmpty_cons (first_cons _ hf)
 have hA0 := hA 0 (by omega)
 have hR1 := hR 1 (by omega)
 have hR2 := hR 2 (by omega)
 have HA0 := Lib.hid hA0
 have HR1 := Lib.hid hR1
 have HR2 := Lib.hid hR2
 clear hA hR hA0 hR1 hR2
 generalize padV true (argV l 0) n (rawV l 2) = V at *
 generalize argV l 0 = s at *
 generalize rawV l 2 = r2 at *
 go_enter Tryz.func33, Tryz.ntmps33
 go_wp2_with fail
 refine (HA0.out _ _ h0).mono ?_
 rintro E w1 ⟨rfl, h1⟩
 go_wp2_with fail
 refine (hI _ _ h1).mono ?_
 rintro E w2 ⟨rfl, h2⟩
 go_wp2_with fail
 refine (HR2.out _ _ h2).mono ?_
 rintro E w3 ⟨rfl, h3⟩
 go_wp2_with fail
 refine (hC _).mono ?_
 rintro E w4 ⟨rfl, hb4⟩
 have h4 := h3.on hb4
 clear hb4
 go_wp2_with fail
 refine (st_result _ _ h4).mono ?_
 rintro E w5 ⟨rfl, h5⟩
 go_wp2_with fail
 go_ret
 exact ⟨rfl, by rw [← fstE_assoc]; exact h5⟩
theorem text_padright0 (l : List ByteArray) (hl : Sml l) (n z : Int) (hI : IntP l 1 0 n z) (hn : I64 n) (hf : (rawV l 2).size = 0) : TextP ⟨#[112, 97, 100, 114, 105, 103, 104, 116]⟩ l ((padV false (argV l 0) n ⟨#[48]⟩).1) (fstE z (padV false (argV l 0) n ⟨#[48]⟩).2) := by
 intro g w0 w p c e h0
 have hA := fun (i : Nat) (hi : i ≤ 1000) W e (h : St g w0 W p c l e) => st_arg i hi h hl
 have hR := fun (i : Nat) (hi : i ≤ 1000) W e (h : St g w0 W p c l e) => st_raw i hi h hl
 have hsz := argV_sz hl 0
 have hs1 := rawV_sz hl 1
 have hs2 := rawV_sz hl 2
 have hI := fun W e (h : St g w0 W p c l e) => st_int hI h
 have hC := fun W => spadright_any (argV l 0) ⟨#[48]⟩ n W (by omega) (by decide) hn
 have hA0 := hA 0 (by omega)
 have hR1 := hR 1 (by omega)
 have hR2 := hR 2 (by omega)
 rw [arg_empty hf] at hR2
 have HA0 := Lib.hid hA0
 have HR1 := Lib.hid hR1
 have HR2 := Lib.hid hR2
 clear hA hR hA0 hR1 hR2 hs2 hf
 generalize padV false (argV l 0) n ⟨#[48]⟩ = V at *
 generalize argV l 0 = s at *
 go_enter Tryz.func33, Tryz.ntmps33
 go_wp2_with fail
 refine (HA0.out _ _ h0).mono ?_
 rintro E w1 ⟨rfl, h1⟩
 go_wp2_with fail
 refine (hI _ _ h1).mono ?_
 rintro E w2 ⟨rfl, h2⟩
 go_wp2_with fail
 refine (HR2.out _ _ h2).mono ?_
 rintro E w3 ⟨rfl, h3⟩
 go_wp2_with fail
 refine (hC _).mono ?_
 rintro E w4 ⟨rfl, hb4⟩
 have h4 := h3.on hb4
 clear hb4
 go_wp2_with fail
 refine (st_result _ _ h4).mono ?_
 rintro E w5 ⟨rfl, h5⟩
 go_wp2_with fail
 go_ret
 exact ⟨rfl, by rw [← fstE_assoc]; exact h5⟩
theorem text_padright1 (l : List ByteArray) (hl : Sml l) (n z : Int) (hI : IntP l 1 0 n z) (hn : I64 n) (hf : 0 < (rawV l 2).size) : TextP ⟨#[112, 97, 100, 114, 105, 103, 104, 116]⟩ l ((padV false (argV l 0) n (rawV l 2)).1) (fstE z (padV false (argV l 0) n (rawV l 2)).2) := by
 intro g w0 w p c e h0
 have hA := fun (i : Nat) (hi : i ≤ 1000) W e (h : St g w0 W p c l e) => st_arg i hi h hl
 have hR := fun (i : Nat) (hi : i ≤ 1000) W e (h : St g w0 W p c l e) => st_raw i hi h hl
 have hsz := argV_sz hl 0
 have hs1 := rawV_sz hl 1
 have hs2 := rawV_sz hl 2
 have hI := fun W e (h : St g w0 W p c l e) => st_int hI h
 have hC := fun W => spadright_any (argV l 0) (rawV l 2) n W (by omega) (by omega) hn
 have hfe : (rawV l 2).toList.isEmpty = false := isEmpty_cons (first_cons _ hf)
 have hA0 := hA 0 (by omega)
 have hR1 := hR 1 (by omega)
 have hR2 := hR 2 (by omega)
 have HA0 := Lib.hid hA0
 have HR1 := Lib.hid hR1
 have HR2 := Lib.hid hR2
 clear hA hR hA0 hR1 hR2
 generalize padV false (argV l 0) n (rawV l 2) = V at *
 generalize argV l 0 = s at *
 generalize rawV l 2 = r2 at *
 go_enter Tryz.func33, Tryz.ntmps33
 go_wp2_with fail
 refine (HA0.out _ _ h0).mono ?_
 rintro E w1 ⟨rfl, h1⟩
 go_wp2_with fail
 refine (hI _ _ h1).mono ?_
 rintro E w2 ⟨rfl, h2⟩
 go_wp2_with fail
 refine (HR2.out _ _ h2).mono ?_
 rintro E w3 ⟨rfl, h3⟩
 go_wp2_with fail
 refine (hC _).mono ?_
 rintro E w4 ⟨rfl, hb4⟩
 have h4 := h3.on hb4
 clear hb4
 go_wp2_with fail
 refine (st_result _ _ h4).mono ?_
 rintro E w5 ⟨rfl, h5⟩
 go_wp2_with fail
 go_ret
 exact ⟨rfl, by rw [← fstE_assoc]; exact h5⟩
theorem text_lc (l : List ByteArray) (hl : Sml l) : TextP ⟨#[108, 99]⟩ l (casS false (argV l 0)) (0) := by
 intro g w0 w p c e h0
 have hA := fun (i : Nat) (hi : i ≤ 1000) W e (h : St g w0 W p c l e) => st_arg i hi h hl
 have hR := fun (i : Nat) (hi : i ≤ 1000) W e (h : St g w0 W p c l e) => st_raw i hi h hl
 have hsz := argV_sz hl 0
 have hs1 := rawV_sz hl 1
 have hs2 := rawV_sz hl 2
 have hC := fun W => slower_any (argV l 0) W (by omega)
 have hA0 := hA 0 (by omega)
 have hR1 := hR 1 (by omega)
 have hR2 := hR 2 (by omega)
 have HA0 := Lib.hid hA0
 have HR1 := Lib.hid hR1
 have HR2 := Lib.hid hR2
 clear hA hR hA0 hR1 hR2
 generalize casS false (argV l 0) = V at *
 generalize argV l 0 = s at *
 go_enter Tryz.func33, Tryz.ntmps33
 go_wp2_with fail
 refine (HA0.out _ _ h0).mono ?_
 rintro E w1 ⟨rfl, h1⟩
 go_wp2_with fail
 refine (hC _).mono ?_
 rintro E w2 ⟨rfl, hb2⟩
 have h2 := h1.on hb2
 clear hb2
 go_wp2_with fail
 go_ret
 exact ⟨rfl, by rw [fstE_zero]; exact h2⟩
theorem text_uc (l : List ByteArray) (hl : Sml l) : TextP ⟨#[117, 99]⟩ l (casS true (argV l 0)) (0) := by
 intro g w0 w p c e h0
 have hA := fun (i : Nat) (hi : i ≤ 1000) W e (h : St g w0 W p c l e) => st_arg i hi h hl
 have hR := fun (i : Nat) (hi : i ≤ 1000) W e (h : St g w0 W p c l e) => st_raw i hi h hl
 have hsz := argV_sz hl 0
 have hs1 := rawV_sz hl 1
 have hs2 := rawV_sz hl 2
 have hC := fun W => supper_any (argV l 0) W (by omega)
 have hA0 := hA 0 (by omega)
 have hR1 := hR 1 (by omega)
 have hR2 := hR 2 (by omega)
 have HA0 := Lib.hid hA0
 have HR1 := Lib.hid hR1
 have HR2 := Lib.hid hR2
 clear hA hR hA0 hR1 hR2
 generalize casS true (argV l 0) = V at *
 generalize argV l 0 = s at *
 go_enter Tryz.func33, Tryz.ntmps33
 go_wp2_with fail
 refine (HA0.out _ _ h0).mono ?_
 rintro E w1 ⟨rfl, h1⟩
 go_wp2_with fail
 refine (hC _).mono ?_
 rintro E w2 ⟨rfl, hb2⟩
 have h2 := h1.on hb2
 clear hb2
 go_wp2_with fail
 go_ret
 exact ⟨rfl, by rw [fstE_zero]; exact h2⟩
theorem text_lcfirst (l : List ByteArray) (hl : Sml l) : TextP ⟨#[108, 99, 102, 105, 114, 115, 116]⟩ l (fstS false (argV l 0)) (0) := by
 intro g w0 w p c e h0
 have hA := fun (i : Nat) (hi : i ≤ 1000) W e (h : St g w0 W p c l e) => st_arg i hi h hl
 have hR := fun (i : Nat) (hi : i ≤ 1000) W e (h : St g w0 W p c l e) => st_raw i hi h hl
 have hsz := argV_sz hl 0
 have hs1 := rawV_sz hl 1
 have hs2 := rawV_sz hl 2
 have hC := fun W => sfirst_any (argV l 0) false W (by omega)
 have hA0 := hA 0 (by omega)
 have hR1 := hR 1 (by omega)
 have hR2 := hR 2 (by omega)
 have HA0 := Lib.hid hA0
 have HR1 := Lib.hid hR1
 have HR2 := Lib.hid hR2
 clear hA hR hA0 hR1 hR2
 generalize fstS false (argV l 0) = V at *
 generalize argV l 0 = s at *
 go_enter Tryz.func33, Tryz.ntmps33
 go_wp2_with fail
 refine (HA0.out _ _ h0).mono ?_
 rintro E w1 ⟨rfl, h1⟩
 go_wp2_with fail
 refine (hC _).mono ?_
 rintro E w2 ⟨rfl, hb2⟩
 have h2 := h1.on hb2
 clear hb2
 go_wp2_with fail
 go_ret
 exact ⟨rfl, by rw [fstE_zero]; exact h2⟩
theorem text_ucfirst (l : List ByteArray) (hl : Sml l) : TextP ⟨#[117, 99, 102, 105, 114, 115, 116]⟩ l (fstS true (argV l 0)) (0) := by
 intro g w0 w p c e h0
 have hA := fun (i : Nat) (hi : i ≤ 1000) W e (h : St g w0 W p c l e) => st_arg i hi h hl
 have hR := fun (i : Nat) (hi : i ≤ 1000) W e (h : St g w0 W p c l e) => st_raw i hi h hl
 have hsz := argV_sz hl 0
 have hs1 := rawV_sz hl 1
 have hs2 := rawV_sz hl 2
 have hC := fun W => sfirst_any (argV l 0) true W (by omega)
 have hA0 := hA 0 (by omega)
 have hR1 := hR 1 (by omega)
 have hR2 := hR 2 (by omega)
 have HA0 := Lib.hid hA0
 have HR1 := Lib.hid hR1
 have HR2 := Lib.hid hR2
 clear hA hR hA0 hR1 hR2
 generalize fstS true (argV l 0) = V at *
 generalize argV l 0 = s at *
 go_enter Tryz.func33, Tryz.ntmps33
 go_wp2_with fail
 refine (HA0.out _ _ h0).mono ?_
 rintro E w1 ⟨rfl, h1⟩
 go_wp2_with fail
 refine (hC _).mono ?_
 rintro E w2 ⟨rfl, hb2⟩
 have h2 := h1.on hb2
 clear hb2
 go_wp2_with fail
 go_ret
 exact ⟨rfl, by rw [fstE_zero]; exact h2⟩
theorem text_part (l : List ByteArray) (hl : Sml l) (n z : Int) (hI : IntP l 2 0 n z) (hn : I64 n) : TextP ⟨#[112, 97, 114, 116]⟩ l (prtS (argV l 0) (rawV l 1) n) (z) := by
 intro g w0 w p c e h0
 have hA := fun (i : Nat) (hi : i ≤ 1000) W e (h : St g w0 W p c l e) => st_arg i hi h hl
 have hR := fun (i : Nat) (hi : i ≤ 1000) W e (h : St g w0 W p c l e) => st_raw i hi h hl
 have hsz := argV_sz hl 0
 have hs1 := rawV_sz hl 1
 have hs2 := rawV_sz hl 2
 have hI := fun W e (h : St g w0 W p c l e) => st_int hI h
 have hC := fun W (h : Env W) => spart_any (argV l 0) (rawV l 1) n W (by omega) (by omega) hn h.2
 have hA0 := hA 0 (by omega)
 have hR1 := hR 1 (by omega)
 have hR2 := hR 2 (by omega)
 have HA0 := Lib.hid hA0
 have HR1 := Lib.hid hR1
 have HR2 := Lib.hid hR2
 clear hA hR hA0 hR1 hR2
 generalize prtS (argV l 0) (rawV l 1) n = V at *
 generalize argV l 0 = s at *
 generalize rawV l 1 = r1 at *
 go_enter Tryz.func33, Tryz.ntmps33
 go_wp2_with fail
 refine (HA0.out _ _ h0).mono ?_
 rintro E w1 ⟨rfl, h1⟩
 go_wp2_with fail
 refine (HR1.out _ _ h1).mono ?_
 rintro E w2 ⟨rfl, h2⟩
 go_wp2_with fail
 refine (hI _ _ h2).mono ?_
 rintro E w3 ⟨rfl, h3⟩
 go_wp2_with fail
 refine (hC _ h3.env).mono ?_
 rintro E w4 ⟨rfl, hb4⟩
 have h4 := h3.on hb4
 clear hb4
 go_wp2_with fail
 go_ret
 exact ⟨rfl, by exact h4⟩
theorem text_trim (l : List ByteArray) (hl : Sml l) : TextP ⟨#[116, 114, 105, 109]⟩ l (argV l 0) (0) := by
 intro g w0 w p c e h0
 have hA := fun (i : Nat) (hi : i ≤ 1000) W e (h : St g w0 W p c l e) => st_arg i hi h hl
 have hR := fun (i : Nat) (hi : i ≤ 1000) W e (h : St g w0 W p c l e) => st_raw i hi h hl
 have hsz := argV_sz hl 0
 have hs1 := rawV_sz hl 1
 have hs2 := rawV_sz hl 2
 have hA0 := hA 0 (by omega)
 have hR1 := hR 1 (by omega)
 have hR2 := hR 2 (by omega)
 have HA0 := Lib.hid hA0
 have HR1 := Lib.hid hR1
 have HR2 := Lib.hid hR2
 clear hA hR hA0 hR1 hR2
 generalize argV l 0 = s at *
 go_enter Tryz.func33, Tryz.ntmps33
 go_wp2_with fail
 refine (HA0.out _ _ h0).mono ?_
 rintro E w1 ⟨rfl, h1⟩
 go_wp2_with fail
 go_ret
 exact ⟨rfl, by rw [fstE_zero]; exact h1⟩
theorem fixed_any (l : List ByteArray) (hl : Sml l) (n z x d y k : Int) (S : ByteArray) (hI : IntP l 1 0 n z) (hE : Ret 25 #[.string (argV l 0)] (x, d, y))
  (hF : ∀ w, Tab w → Calls Tryz.prog 61 #[.agg #[.int .i64 x, .int .i64 d], .int .i64 n] w fun e w' => e = .returned (.tuple #[.string S, .int .i64 k]) ∧ Below w.heap.size w w')
  (g : Nat) (w0 w : World) (p : Option Addr) (c : Nat) (e : Int) (h0 : St g w0 w p c l e) :
  Calls Tryz.prog 28 #[.pointer (some ⟨g, 0, none⟩)] w fun E w' => E = .returned (.string S) ∧ St g w0 w' p c l (fstE e (fstE z (fstE y k))) := by
 have hA := fun W e (h : St g w0 W p c l e) => st_arg 0 (by omega) h hl
 have hIJ := fun W e (h : St g w0 W p c l e) => st_int hI h
 unfold Ret at hE
 simp only at hE
 generalize argV l 0 = s at *
 have HA := Lib.hid hA
 have HI := Lib.hid hIJ
 have HE := Lib.hid hE
 have HF := Lib.hid hF
 clear hA hIJ hE hF hI
 go_enter Tryz.func28, Tryz.ntmps28
 go_wp2_with fail
 refine (HI.out _ _ h0).mono ?_
 rintro E w1 ⟨rfl, h1⟩
 go_wp2_with fail
 refine (HA.out _ _ h1).mono ?_
 rintro E w2 ⟨rfl, h2⟩
 go_wp2_with fail
 refine (HE.out _).mono ?_
 rintro E w3 ⟨rfl, hb3⟩
 have h3 := h2.on hb3
 have KN := Known.made w3 50 #[.int .i64 x, .int .i64 d]
 have h4 := h3.on (below_new0 w3 (.cells #[.int .i64 x, .int .i64 d] 50))
 obtain ⟨c0, c1⟩ := KN.two
 have HKN := Lib.hid KN
 have hlt := h3.lt
 have hne : g ≠ w3.heap.size := by omega
 have hF := st_fail y h4
 clear hb3 KN h3 h2 h1 h0
 go_wp2_with fail
 refine hF.mono ?_
 rintro E w5 ⟨rfl, h5, hkk⟩
 obtain ⟨q0, q1⟩ := (hkk _ _ _ hne HKN.out).two
 have hlt5 := (hkk _ _ _ hne HKN.out).lt
 clear hkk c0 c1 h4 hF
 go_wp2_with fail
 refine (HF.out _ h5.env.1).mono ?_
 rintro E w6 ⟨rfl, hb6⟩
 have h6 := h5.on hb6
 clear hb6 h5 q0 q1
 go_wp2_with fail
 refine (st_result _ _ h6).mono ?_
 rintro E w7 ⟨rfl, h7⟩
 go_wp2_with fail
 go_ret
 exact ⟨rfl, by rw [← fstE_assoc, ← fstE_assoc]; exact h7⟩
def patD : ByteArray := ⟨#[89, 45, 109, 45, 100, 32, 72, 58, 105]⟩
theorem dateAdd_any (l : List ByteArray) (hl : Sml l) (n z u m y a b k : Int) (S : ByteArray) (hI : IntP l 1 0 n z)
  (hU : ∀ w, Calls Tryz.prog 62 #[.string (argV l 2)] w fun e w' => e = .returned (.int .i64 u) ∧ Below w.heap.size w w')
  (hP : ∀ w, Calls Tryz.prog 30 #[.string (argV l 0)] w fun e w' => e = .returned (.tuple #[.int .i64 m, .int .i64 y]) ∧ Below w.heap.size w w')
  (hA : ∀ w, Calls Tryz.prog 63 #[.int .i64 m, .int .i64 u, .int .i64 n] w fun e w' => e = .returned (.tuple #[.int .i64 a, .int .i64 b]) ∧ Below w.heap.size w w')
  (hF : ∀ w, Tab w → Calls Tryz.prog 32 #[.string patD, .int .i64 a] w fun e w' => e = .returned (.tuple #[.string S, .int .i64 k]) ∧ Below w.heap.size w w')
  (g : Nat) (w0 w : World) (p : Option Addr) (c : Nat) (e : Int) (h0 : St g w0 w p c l e) :
  Calls Tryz.prog 29 #[.pointer (some ⟨g, 0, none⟩)] w fun E w' => E = .returned (.string S) ∧ St g w0 w' p c l (fstE e (fstE z (fstE (if u = 0 then 7 else 0) (fstE y (fstE b k))))) := by
 have hA0 := fun W e (h : St g w0 W p c l e) => st_arg 0 (by omega) h hl
 have hA2 := fun W e (h : St g w0 W p c l e) => st_arg 2 (by omega) h hl
 have hIJ := fun W e (h : St g w0 W p c l e) => st_int hI h
 unfold patD at hF
 generalize argV l 0 = s at *
 generalize argV l 2 = t at *
 have HA0 := Lib.hid hA0
 have HA2 := Lib.hid hA2
 have HI := Lib.hid hIJ
 have HU := Lib.hid hU
 have HP := Lib.hid hP
 have HA := Lib.hid hA
 have HF := Lib.hid hF
 clear hA0 hA2 hIJ hU hP hA hF hI
 by_cases hu : u = 0
 ·rw [if_pos hu]
  subst hu
  go_enter Tryz.func29, Tryz.ntmps29
  go_wp2_with fail
  refine (HI.out _ _ h0).mono ?_
  rintro E w1 ⟨rfl, h1⟩
  go_wp2_with fail
  refine (HA2.out _ _ h1).mono ?_
  rintro E w2 ⟨rfl, h2⟩
  go_wp2_with fail
  refine (HU.out _).mono ?_
  rintro E w3 ⟨rfl, hb3⟩
  have h3 := h2.on hb3
  clear hb3 h2 h1 h0
  go_wp2_with fail
  refine (st_fail 7 h3).mono ?_
  rintro E w4 ⟨rfl, h4, -⟩
  go_wp2_with fail
  refine (HA0.out _ _ h4).mono ?_
  rintro E w5 ⟨rfl, h5⟩
  go_wp2_with fail
  refine (HP.out _).mono ?_
  rintro E w6 ⟨rfl, hb6⟩
  have h6 := h5.on hb6
  clear hb6 h5 h4 h3
  go_wp2_with fail
  refine (st_fail y h6).mono ?_
  rintro E w7 ⟨rfl, h7, -⟩
  go_wp2_with fail
  refine (HA.out _).mono ?_
  rintro E w8 ⟨rfl, hb8⟩
  have h8 := h7.on hb8
  clear hb8 h7 h6
  go_wp2_with fail
  refine (st_fail b h8).mono ?_
  rintro E w9 ⟨rfl, h9, -⟩
  go_wp2_with fail
  refine (HF.out _ h9.env.1).mono ?_
  rintro E w10 ⟨rfl, hb10⟩
  have h10 := h9.on hb10
  clear hb10 h9 h8
  go_wp2_with fail
  refine (st_result _ _ h10).mono ?_
  rintro E w11 ⟨rfl, h11⟩
  go_wp2_with fail
  go_ret
  exact ⟨rfl, by rw [← fstE_assoc, ← fstE_assoc, ← fstE_assoc, ← fstE_assoc]; exact h11⟩
 ·rw [if_neg hu]
  have g1 : (u == 0) = false := by simp; exact hu
  clear hu
  go_enter Tryz.func29, Tryz.ntmps29
  go_wp2_with fail
  refine (HI.out _ _ h0).mono ?_
  rintro E w1 ⟨rfl, h1⟩
  go_wp2_with fail
  refine (HA2.out _ _ h1).mono ?_
  rintro E w2 ⟨rfl, h2⟩
  go_wp2_with fail
  refine (HU.out _).mono ?_
  rintro E w3 ⟨rfl, hb3⟩
  have h3 := h2.on hb3
  clear hb3 h2 h1 h0
  go_wp2_with fail
  refine (HA0.out _ _ h3).mono ?_
  rintro E w5 ⟨rfl, h5⟩
  go_wp2_with fail
  refine (HP.out _).mono ?_
  rintro E w6 ⟨rfl, hb6⟩
  have h6 := h5.on hb6
  clear hb6 h5 h3
  go_wp2_with fail
  refine (st_fail y h6).mono ?_
  rintro E w7 ⟨rfl, h7, -⟩
  go_wp2_with fail
  refine (HA.out _).mono ?_
  rintro E w8 ⟨rfl, hb8⟩
  have h8 := h7.on hb8
  clear hb8 h7 h6
  go_wp2_with fail
  refine (st_fail b h8).mono ?_
  rintro E w9 ⟨rfl, h9, -⟩
  go_wp2_with fail
  refine (HF.out _ h9.env.1).mono ?_
  rintro E w10 ⟨rfl, hb10⟩
  have h10 := h9.on hb10
  clear hb10 h9 h8
  go_wp2_with fail
  refine (st_result _ _ h10).mono ?_
  rintro E w11 ⟨rfl, h11⟩
  go_wp2_with fail
  go_ret
  exact ⟨rfl, by rw [← fstE_assoc, ← fstE_assoc, ← fstE_assoc, ← fstE_assoc, fstE_zero]; exact h11⟩
def CallP (N : ByteArray) (l : List ByteArray) (S : ByteArray) (z : Int) : Prop := ∀ (w : World) (p : Option Addr) (c : Nat), SL w p c l → Env w →
 Calls Tryz.prog 11 #[.string N, .slice p l.length c] w fun E w' => E = .returned (.tuple #[.string S, .int .i64 z]) ∧ Below w.heap.size w w'
def outS (S : ByteArray) (z : Int) : ByteArray := if z = 0 then S else ⟨#[]⟩
theorem SL.below_or {w : World} {p : Option Addr} {c : Nat} {l : List ByteArray} (h : SL w p c l) : l = [] ∨ ∀ b o, p = some ⟨b, o, none⟩ → b < w.heap.size := by
 rcases h.2.2 with h | ⟨b, o, rfl, hl, -⟩
 ·exact .inl h
 ·exact .inr fun b' o' e => by cases e; exact hl
theorem St.start {w : World} {p : Option Addr} {c : Nat} {l : List ByteArray} (h : SL w p c l) (he : Env w) : St w.heap.size w (w.alloc (.cells #[.slice p l.length c, .int .i64 0] 48)) p c l 0 :=
 ⟨⟨Known.made w _ _, h.below (below_new0 _ _), h.below_or, w, he, Nat.le_refl _, below_new0 _ _⟩, below_new0 _ _⟩
inductive PQ (l : List ByteArray) : ByteArray → ByteArray → Int → Prop where
 | text (N S : ByteArray) (z : Int) (hmem : N ∈ nms) (hN : ∀ x ∈ ([⟨#[102, 111, 114, 109, 117, 108, 97]⟩, ⟨#[102, 105, 120, 101, 100]⟩, ⟨#[100, 97, 116, 101, 97, 100, 100]⟩, ⟨#[100, 97, 116, 101, 102, 111, 114, 109, 97, 116]⟩] : List ByteArray), N ≠ x) (hT : TextP N l S z) : PQ l N S z
 | fixed (n1 z1 x d y k1 : Int) (S : ByteArray) (hI : IntP l 1 0 n1 z1) (hE : Ret 25 #[.string (argV l 0)] (x, d, y)) (hF : ∀ w, Tab w → Calls Tryz.prog 61 #[.agg #[.int .i64 x, .int .i64 d], .int .i64 n1] w fun e w' => e = .returned (.tuple #[.string S, .int .i64 k1]) ∧ Below w.heap.size w w') :
   PQ l ⟨#[102, 105, 120, 101, 100]⟩ S (fstE z1 (fstE y k1))
 | dateadd (n1 z1 u m y a b k1 : Int) (S : ByteArray) (hI : IntP l 1 0 n1 z1)
   (hU : ∀ w, Calls Tryz.prog 62 #[.string (argV l 2)] w fun e w' => e = .returned (.int .i64 u) ∧ Below w.heap.size w w')
   (hP : ∀ w, Calls Tryz.prog 30 #[.string (argV l 0)] w fun e w' => e = .returned (.tuple #[.int .i64 m, .int .i64 y]) ∧ Below w.heap.size w w')
   (hA : ∀ w, Calls Tryz.prog 63 #[.int .i64 m, .int .i64 u, .int .i64 n1] w fun e w' => e = .returned (.tuple #[.int .i64 a, .int .i64 b]) ∧ Below w.heap.size w w')
   (hF : ∀ w, Tab w → Calls Tryz.prog 32 #[.string patD, .int .i64 a] w fun e w' => e = .returned (.tuple #[.string S, .int .i64 k1]) ∧ Below w.heap.size w w') :
   PQ l ⟨#[100, 97, 116, 101, 97, 100, 100]⟩ S (fstE z1 (fstE (if u = 0 then 7 else 0) (fstE y (fstE b k1))))
 | dateformat (m y k1 : Int) (S : ByteArray)
   (hP : ∀ w, Calls Tryz.prog 30 #[.string (argV l 1)] w fun e w' => e = .returned (.tuple #[.int .i64 m, .int .i64 y]) ∧ Below w.heap.size w w')
   (hF : ∀ w, Tab w → Calls Tryz.prog 32 #[.string (argV l 0), .int .i64 m] w fun e w' => e = .returned (.tuple #[.string S, .int .i64 k1]) ∧ Below w.heap.size w w') : PQ l ⟨#[100, 97, 116, 101, 102, 111, 114, 109, 97, 116]⟩ S (fstE y k1)
 | formula0 (h0 : (argV l 0).size = 0) : PQ l ⟨#[102, 111, 114, 109, 117, 108, 97]⟩ ⟨#[]⟩ 0
 | formula (x d y : Int) (S : ByteArray) (hs : 0 < (argV l 0).size) (hE : Ret 25 #[.string (argV l 0)] (x, d, y))
   (hF : ∀ w, Tab w → Calls Tryz.prog 27 #[.agg #[.int .i64 x, .int .i64 d]] w fun e w' => e = .returned (.string S) ∧ Below w.heap.size w w') : PQ l ⟨#[102, 111, 114, 109, 117, 108, 97]⟩ S y
theorem PQ.mem {l : List ByteArray} {N S : ByteArray} {z : Int} (h : PQ l N S z) : 0 ≤ idxN N nms 0 := by
 cases h with
 | text _ _ _ hmem hN hT => exact mem_idxN N nms 0 hmem
 | _ => decide +kernel
set_option maxHeartbeats 10000000 in
theorem call_any (l : List ByteArray) (hl : Sml l) (hl40 : l.length ≤ 40) {N S : ByteArray} {z : Int} (hQ : PQ l N S z) : CallP N l (outS S z) z := by
 intro w p c hS henv
 have hcap := hS.1
 have hcap2 := hS.2.1
 have hNm := names_any w
 have hCt : ∀ W q, SL W q 17 nms → Calls Tryz.prog 23 #[.slice q 17 17, .string N] W fun e w' => e = .returned (.bool true) ∧ W = w' := fun W q h => by
  have h1 := contains_any N q W h
  rwa [decide_eq_true hQ.mem] at h1
 have HS := Lib.hid hS
 have HENV := Lib.hid henv
 have HCT := Lib.hid hCt
 have HL := Lib.hid hl
 have HPQ := Lib.hid hQ
 have hstart := fun W (h : SL W p c l) (he : Env W) => St.start h he
 have hsz := hl.2
 obtain ⟨n, hn⟩ : ∃ n, n = l.length := ⟨_, rfl⟩
 rw [← hn] at hcap hl40 hstart ⊢
 have HN := Lib.hid hn
 have HSZ := Lib.hid hsz
 have HST := Lib.hid hstart
 obtain ⟨V, hV⟩ : ∃ V, V = outS S z := ⟨_, rfl⟩
 rw [← hV]
 have HV := Lib.hid hV
 obtain ⟨Z, hZ⟩ : ∃ Z, Z = z := ⟨_, rfl⟩
 rw [← hZ]
 have HZ := Lib.hid hZ
 have hA0 := fun (g : Nat) (w0 : World) W e (h : St g w0 W p c l e) => st_arg 0 (by omega) h hl
 have hA1 := fun (g : Nat) (w0 : World) W e (h : St g w0 W p c l e) => st_arg 1 (by omega) h hl
 have HA0 := Lib.hid hA0
 have HA1 := Lib.hid hA1
 clear hS henv hCt hl hn hsz hstart hV hZ hA0 hA1 hQ
 go_enter Tryz.func11, Tryz.ntmps11
 go_wp2_with fail
 refine hNm.mono ?_
 rintro E w1 ⟨q, rfl, hq, hb1⟩
 have HB1 := Lib.hid hb1
 have hC1 := HCT.out w1 q hq
 clear hb1 hNm hq
 go_wp2_with fail
 refine hC1.mono ?_
 rintro E w2 ⟨rfl, rfl⟩
 have HS1 := Lib.hid (HS.out.below HB1.out)
 have HENV1 := Lib.hid (HENV.out.below HB1.out)
 clear hC1 HS HENV HCT
 have g40 : decide (40 < n) = false := decide_eq_false (by omega)
 go_wp2_with fail
 go_loopg [7, 24] (n + 1) (fun g s7 s24 wr => ∃ k : Nat, s24 = .int .i64 k ∧ k ≤ n ∧ n < k + g ∧ w1 = wr)
 case atStart => exact ⟨0, rfl, by omega, by omega, rfl⟩
 case round =>
  obtain ⟨k, rfl, hk, hg, rfl⟩ := hrel
  by_cases h1 : k < n
  ·have g1 : decide (k < n) = true := decide_eq_true h1
   obtain ⟨b0, o, rfl, hbl, hcc⟩ := HS1.out.all (by rw [← HN.out]; omega)
   obtain ⟨x, hx⟩ : ∃ x, l[k]? = some x := ⟨_, List.getElem?_eq_getElem (by rw [← HN.out]; exact h1)⟩
   have d0 := hcc k x hx
   have hxs := HSZ.out x (List.mem_of_getElem? hx)
   have g2 : decide (32768 < x.size) = false := decide_eq_false (by omega)
   clear hcc hx
   go_wp2_with fail
   go_roundg (n - k)
   case measure => omega
   case rel => exact ⟨k + 1, by go_num, by omega, by omega, rfl⟩
  ·have g1 : decide (k < n) = false := decide_eq_false h1
   have h0 := HST.out w1 HS1.out HENV1.out
   have hZ := HZ.out
   clear h1 g40
   have hpq := HPQ.out
   clear HPQ
   cases hpq with
   | text N S z hmem hN hT =>
     have e0 : (N.toList == [102, 111, 114, 109, 117, 108, 97]) = false := by
      rw [ByteArray.toList_eq, Bool.eq_false_iff]
      intro h
      exact hN ⟨#[102, 111, 114, 109, 117, 108, 97]⟩ (by simp) (bytes_ext (by simpa using h))
     have e1 : (N.toList == [102, 105, 120, 101, 100]) = false := by
      rw [ByteArray.toList_eq, Bool.eq_false_iff]
      intro h
      exact hN ⟨#[102, 105, 120, 101, 100]⟩ (by simp) (bytes_ext (by simpa using h))
     have e2 : (N.toList == [100, 97, 116, 101, 97, 100, 100]) = false := by
      rw [ByteArray.toList_eq, Bool.eq_false_iff]
      intro h
      exact hN ⟨#[100, 97, 116, 101, 97, 100, 100]⟩ (by simp) (bytes_ext (by simpa using h))
     have e3 : (N.toList == [100, 97, 116, 101, 102, 111, 114, 109, 97, 116]) = false := by
      rw [ByteArray.toList_eq, Bool.eq_false_iff]
      intro h
      exact hN ⟨#[100, 97, 116, 101, 102, 111, 114, 109, 97, 116]⟩ (by simp) (bytes_ext (by simpa using h))
     have HT := Lib.hid hT
     clear hN hT hmem
     go_wp2_with fail
     refine (HT.out _ _ _ _ _ _ h0).mono ?_
     rintro E v1 ⟨rfl, h1⟩
     replace h1 : St w1.heap.size w1 v1 p c l Z := by rw [hZ]; exact h1
     obtain ⟨c0, c1⟩ := h1.1.kn.two
     have hlt := h1.lt
     have hbl := below_then HB1.out h1.2
     clear h1
     by_cases hz : Z = 0
     ·have HVV := Lib.hid (show V = S by rw [HV.out, ← hZ, hz]; rfl)
      clear HV HZ hZ
      subst hz
      go_wp2_with fail
      go_ret2
      exact ⟨by rw [HVV.out]; rfl, hbl⟩
     ·have HVV := Lib.hid (show V = ⟨#[]⟩ by rw [HV.out, ← hZ]; unfold outS; rw [if_neg hz])
      clear HV HZ hZ
      have gz : (Z != 0) = true := by simp; exact hz
      clear hz
      go_wp2_with fail
      refine wp_region_gr (by kernel_rfl) (by kernel_rfl) ?_
      repeat (go_big_quiet_step (fail))
      with_reducible refine wpQuiet_nil ?_
      intro _ hw'; obtain ⟨w6, hw''⟩ := hw'; subst hw''
      have B6 := gr_below v1 w6
      go_wp2_with fail
      go_ret2
      exact ⟨by rw [HVV.out]; rfl, below_then hbl B6⟩
   | fixed n1 z1 x d y k1 S hI hE hF =>
     have HI := Lib.hid hI
     have HE := Lib.hid hE
     have HF := Lib.hid hF
     clear hI hE hF
     go_wp2_with fail
     refine (fixed_any l HL.out n1 z1 x d y k1 S HI.out HE.out HF.out _ _ _ _ _ _ h0).mono ?_
     rintro E v1 ⟨rfl, h1⟩
     replace h1 : St w1.heap.size w1 v1 p c l Z := by rw [hZ]; exact h1
     obtain ⟨c0, c1⟩ := h1.1.kn.two
     have hlt := h1.lt
     have hbl := below_then HB1.out h1.2
     clear h1
     by_cases hz : Z = 0
     ·have HVV := Lib.hid (show V = S by rw [HV.out, ← hZ, hz]; rfl)
      clear HV HZ hZ
      subst hz
      go_wp2_with fail
      go_ret2
      exact ⟨by rw [HVV.out]; rfl, hbl⟩
     ·have HVV := Lib.hid (show V = ⟨#[]⟩ by rw [HV.out, ← hZ]; unfold outS; rw [if_neg hz])
      clear HV HZ hZ
      have gz : (Z != 0) = true := by simp; exact hz
      clear hz
      go_wp2_with fail
      refine wp_region_gr (by kernel_rfl) (by kernel_rfl) ?_
      repeat (go_big_quiet_step (fail))
      with_reducible refine wpQuiet_nil ?_
      intro _ hw'; obtain ⟨w6, hw''⟩ := hw'; subst hw''
      have B6 := gr_below v1 w6
      go_wp2_with fail
      go_ret2
      exact ⟨by rw [HVV.out]; rfl, below_then hbl B6⟩
   | dateadd n1 z1 u m y a b k1 S hI hU hP hA hF =>
     have HI := Lib.hid hI
     have HU := Lib.hid hU
     have HP := Lib.hid hP
     have HA := Lib.hid hA
     have HF := Lib.hid hF
     clear hI hU hP hA hF
     go_wp2_with fail
     refine (dateAdd_any l HL.out n1 z1 u m y a b k1 S HI.out HU.out HP.out HA.out HF.out _ _ _ _ _ _ h0).mono ?_
     rintro E v1 ⟨rfl, h1⟩
     replace h1 : St w1.heap.size w1 v1 p c l Z := by rw [hZ]; exact h1
     obtain ⟨c0, c1⟩ := h1.1.kn.two
     have hlt := h1.lt
     have hbl := below_then HB1.out h1.2
     clear h1
     by_cases hz : Z = 0
     ·have HVV := Lib.hid (show V = S by rw [HV.out, ← hZ, hz]; rfl)
      clear HV HZ hZ
      subst hz
      go_wp2_with fail
      go_ret2
      exact ⟨by rw [HVV.out]; rfl, hbl⟩
     ·have HVV := Lib.hid (show V = ⟨#[]⟩ by rw [HV.out, ← hZ]; unfold outS; rw [if_neg hz])
      clear HV HZ hZ
      have gz : (Z != 0) = true := by simp; exact hz
      clear hz
      go_wp2_with fail
      refine wp_region_gr (by kernel_rfl) (by kernel_rfl) ?_
      repeat (go_big_quiet_step (fail))
      with_reducible refine wpQuiet_nil ?_
      intro _ hw'; obtain ⟨w6, hw''⟩ := hw'; subst hw''
      have B6 := gr_below v1 w6
      go_wp2_with fail
      go_ret2
      exact ⟨by rw [HVV.out]; rfl, below_then hbl B6⟩
   | dateformat m y k1 S hP hF =>
     have HP := Lib.hid hP
     have HF := Lib.hid hF
     clear hP hF
     go_wp2_with fail
     refine (HA1.out _ _ _ _ h0).mono ?_
     rintro E v1 ⟨rfl, h1⟩
     go_wp2_with fail
     refine (HP.out _).mono ?_
     rintro E v2 ⟨rfl, hb2⟩
     have h2 := h1.on hb2
     clear hb2
     go_wp2_with fail
     refine (st_fail y h2).mono ?_
     rintro E v3 ⟨rfl, h3, -⟩
     go_wp2_with fail
     refine (HA0.out _ _ _ _ h3).mono ?_
     rintro E v4 ⟨rfl, h4⟩
     go_wp2_with fail
     refine (HF.out _ h4.env.1).mono ?_
     rintro E v5 ⟨rfl, hb5⟩
     have h5 := h4.on hb5
     clear hb5
     go_wp2_with fail
     refine (st_result _ _ h5).mono ?_
     rintro E v6 ⟨rfl, h6⟩
     rw [show fstE (fstE 0 y) k1 = fstE y k1 by rw [fstE_assoc]; rfl] at h6
     replace h6 : St w1.heap.size w1 v6 p c l Z := by rw [hZ]; exact h6
     obtain ⟨c0, c1⟩ := h6.1.kn.two
     have hlt := h6.lt
     have hbl := below_then HB1.out h6.2
     clear h6
     by_cases hz : Z = 0
     ·have HVV := Lib.hid (show V = S by rw [HV.out, ← hZ, hz]; rfl)
      clear HV HZ hZ
      subst hz
      go_wp2_with fail
      go_ret2
      exact ⟨by rw [HVV.out]; rfl, hbl⟩
     ·have HVV := Lib.hid (show V = ⟨#[]⟩ by rw [HV.out, ← hZ]; unfold outS; rw [if_neg hz])
      clear HV HZ hZ
      have gz : (Z != 0) = true := by simp; exact hz
      clear hz
      go_wp2_with fail
      refine wp_region_gr (by kernel_rfl) (by kernel_rfl) ?_
      repeat (go_big_quiet_step (fail))
      with_reducible refine wpQuiet_nil ?_
      intro _ hw'; obtain ⟨w6, hw''⟩ := hw'; subst hw''
      have B6 := gr_below v6 w6
      go_wp2_with fail
      go_ret2
      exact ⟨by rw [HVV.out]; rfl, below_then hbl B6⟩
   | formula0 hf =>
     have hA := HA0.out _ _ _ _ h0
     rw [arg_empty hf] at hA
     have HVV := Lib.hid (show V = ⟨#[]⟩ by rw [HV.out]; rfl)
     subst hZ
     clear hf HV HA0 HA1
     go_wp2_with fail
     refine hA.mono ?_
     rintro E v1 ⟨rfl, h1⟩
     obtain ⟨c0, c1⟩ := h1.1.kn.two
     have hlt := h1.lt
     have hbl := below_then HB1.out h1.2
     clear h1
     go_wp2_with fail
     go_ret2
     exact ⟨by rw [HVV.out]; rfl, hbl⟩
   | formula x d y S hs hE hF =>
     have hse : (argV l 0).toList.isEmpty = false := isEmpty_cons (first_cons _ hs)
     unfold Ret at hE
     simp only at hE
     have HE := Lib.hid hE
     have HF := Lib.hid hF
     clear hE hF
     go_wp2_with fail
     refine (HA0.out _ _ _ _ h0).mono ?_
     rintro E v1 ⟨rfl, h1⟩
     go_wp2_with fail
     refine (HE.out _).mono ?_
     rintro E v2 ⟨rfl, hb2⟩
     have h2 := h1.on hb2
     clear hb2
     have KN := Known.made v2 50 #[.int .i64 x, .int .i64 d]
     have h2b := h2.on (below_new0 v2 (.cells #[.int .i64 x, .int .i64 d] 50))
     obtain ⟨q0, q1⟩ := KN.two
     have hlq := KN.lt
     clear KN h0 h1 h2
     go_wp2_with fail
     refine (HF.out _ h2b.env.1).mono ?_
     rintro E v3 ⟨rfl, hb3⟩
     have h3 := h2b.on hb3
     clear hb3
     clear q0 q1 h2b
     go_wp2_with fail
     refine (st_result _ _ h3).mono ?_
     rintro E v4 ⟨rfl, h4⟩
     replace h4 : St w1.heap.size w1 v4 p c l Z := by rw [hZ]; exact h4
     obtain ⟨c0, c1⟩ := h4.1.kn.two
     have hlt := h4.lt
     have hbl := below_then HB1.out h4.2
     clear h4
     by_cases hz : Z = 0
     ·have HVV := Lib.hid (show V = S by rw [HV.out, ← hZ, hz]; rfl)
      clear HV HZ hZ
      subst hz
      go_wp2_with fail
      go_ret2
      exact ⟨by rw [HVV.out]; rfl, hbl⟩
     ·have HVV := Lib.hid (show V = ⟨#[]⟩ by rw [HV.out, ← hZ]; unfold outS; rw [if_neg hz])
      clear HV HZ hZ
      have gz : (Z != 0) = true := by simp; exact hz
      clear hz
      go_wp2_with fail
      refine wp_region_gr (by kernel_rfl) (by kernel_rfl) ?_
      repeat (go_big_quiet_step (fail))
      with_reducible refine wpQuiet_nil ?_
      intro _ hw'; obtain ⟨w6, hw''⟩ := hw'; subst hw''
      have B6 := gr_below v4 w6
      go_wp2_with fail
      go_ret2
      exact ⟨by rw [HVV.out]; rfl, below_then hbl B6⟩
def CntQ (N : ByteArray) (l : List ByteArray) (S : ByteArray) (z : Int) : Prop := ∀ (w : World) (p : Option Addr) (c : Nat), SL w p c l →
 Calls Tryz.prog 45 #[.string N, .slice p l.length c] w fun E w' => E = .returned (.tuple #[.string S, .int .i64 z]) ∧ Below w.heap.size w w'
def DatQ (l : List ByteArray) (S : ByteArray) (z : Int) : Prop := ∀ (w : World) (p : Option Addr) (c : Nat), SL w p c l →
 Calls Tryz.prog 44 #[.slice p l.length c] w fun E w' => E = .returned (.tuple #[.string S, .int .i64 z]) ∧ Below w.heap.size w w'
def Sq (w0 w : World) (p : Option Addr) (c : Nat) (l : List ByteArray) : Prop := SL w p c l ∧ Below w0.heap.size w0 w
theorem Sq.on {w0 w w' : World} {p : Option Addr} {c : Nat} {l : List ByteArray} (h : Sq w0 w p c l) (hb : Below w.heap.size w w') : Sq w0 w' p c l := ⟨h.1.below hb, below_then h.2 hb⟩
theorem outS_no {S : ByteArray} {z : Int} (h : z ≠ 0) : outS S z = ⟨#[]⟩ := by unfold outS; rw [if_neg h]
theorem outS_ok {S : ByteArray} {z : Int} (h : z = 0) : outS S z = S := by unfold outS; rw [if_pos h]
end Go.Proofs.YtcklofamaooegaaGreatDoor
