/-
  The sanity check of the laws about elements. Condition: the library's MaxLen holds a number.
  The law InlineParse: for every text the program and the reference read the same elements, and the same text without entities. Condition: the library's MaxLen holds a number.
-/
import Derived.Test.YtegcacnmcdkfiaaGreatDoorTu
import Derived.Test.YtegcacnmcdkfiaaGreatDoorTc
import Derived.Test.YtegcacnmcdkfiaaGreatDoorTf
import Derived.Test.YtegcacnmcdkfiaaGreatDoorTi

namespace Go.Proofs.YtegcacnmcdkfiaaGreatDoor
open Go.RowKit Doc Tit Inl
set_option linter.unusedVariables false
attribute [local go_sem ↓] Go.wp_at_zero Go.wp_at_succ

def icell (a : Int) (t : ByteArray) (kv : Value) : List Value := [.int .i64 a, .string t, .int .i64 0, .string ⟨#[]⟩, .string ⟨#[]⟩, kv]
abbrev Any : Nat → Prop := fun _ => True
theorem one_sl {w : World} {g : Nat} {a : Int} {t : ByteArray} {kv : Value} {k : Ins} (K : Known w g 42 #[.int .i64 a, .string t, .int .i64 0, .string ⟨#[]⟩, .string ⟨#[]⟩, kv]) (h : insS.sl Any w kv k) :
    insS.sl Any w (.slice (some ⟨g, 0, none⟩) 1 1) (.cons a t 0 ⟨#[]⟩ ⟨#[]⟩ k .nil) := by
  refine ⟨_, 1, rfl, Nat.le_refl _, by decide, (fun h => by cases h), .inr ⟨g, 0, _, rfl, trivial, K.lt, fun i u hu => ?_, kv, [], rfl, h, rfl⟩⟩
  rw [Nat.zero_add, K.cell i]
  simpa using hu
theorem two_sl {w : World} {g : Nat} {a b : Int} {t u : ByteArray} {kv lv : Value} {k l : Ins} (K : Known w g 42 #[.int .i64 a, .string t, .int .i64 0, .string ⟨#[]⟩, .string ⟨#[]⟩, kv, .int .i64 b, .string u, .int .i64 0, .string ⟨#[]⟩, .string ⟨#[]⟩, lv]) (h : insS.sl Any w kv k) (h' : insS.sl Any w lv l) :
    insS.sl Any w (.slice (some ⟨g, 0, none⟩) 2 2) (.cons a t 0 ⟨#[]⟩ ⟨#[]⟩ k (.cons b u 0 ⟨#[]⟩ ⟨#[]⟩ l .nil)) := by
  refine ⟨_, 2, rfl, Nat.le_refl _, by decide, (fun h => by cases h), .inr ⟨g, 0, _, rfl, trivial, K.lt, fun i u hu => ?_, kv, _, rfl, h, lv, [], rfl, h', rfl⟩⟩
  rw [Nat.zero_add, K.cell i]
  simpa using hu
theorem three_sl {w : World} {g : Nat} {a b c : Int} {t u v : ByteArray} {kv lv mv : Value} {k l m : Ins} (K : Known w g 42 #[.int .i64 a, .string t, .int .i64 0, .string ⟨#[]⟩, .string ⟨#[]⟩, kv, .int .i64 b, .string u, .int .i64 0, .string ⟨#[]⟩, .string ⟨#[]⟩, lv, .int .i64 c, .string v, .int .i64 0, .string ⟨#[]⟩, .string ⟨#[]⟩, mv])
    (h : insS.sl Any w kv k) (h' : insS.sl Any w lv l) (h'' : insS.sl Any w mv m) :
    insS.sl Any w (.slice (some ⟨g, 0, none⟩) 3 3) (.cons a t 0 ⟨#[]⟩ ⟨#[]⟩ k (.cons b u 0 ⟨#[]⟩ ⟨#[]⟩ l (.cons c v 0 ⟨#[]⟩ ⟨#[]⟩ m .nil))) := by
  refine ⟨_, 3, rfl, Nat.le_refl _, by decide, (fun h => by cases h), .inr ⟨g, 0, _, rfl, trivial, K.lt, fun i u hu => ?_, kv, _, rfl, h, lv, _, rfl, h', mv, [], rfl, h'', rfl⟩⟩
  rw [Nat.zero_add, K.cell i]
  simpa using hu
theorem sl_below {w w' : World} {v : Value} {k : Ins} (h : insS.sl Any w v k) (hb : Below w.heap.size w w') : insS.sl Any w' v k := insS.sl_on h (Kept.below hb)
theorem sl_any {w : World} {q : Nat → Prop} {v : Value} {k : Ins} (h : insS.sl q w v k) : insS.sl Any w v k := insS.sl_on h (Kept.mono fun _ _ _ => trivial)
set_option maxRecDepth 10000 in
set_option maxHeartbeats 1000000 in
theorem text_any (s : ByteArray) (w : World) :
    Calls Tryz.prog 26 #[.string s] w fun e w' => e = .returned (.agg #[.int .i64 1, .string s, .int .i64 0, .string ⟨#[]⟩, .string ⟨#[]⟩, .slice none 0 0]) ∧ Below w.heap.size w w' := by
  go_enter Tryz.func26, Tryz.ntmps26
  go_wp2_with fail
  exact bodyPost_ret (v := .agg #[.int .i64 1, .string s, .int .i64 0, .string ⟨#[]⟩, .string ⟨#[]⟩, .slice none 0 0]) (by simp [results, Tryz.results26, go_sem]) rfl ⟨rfl, below_new0 _ _⟩
def knT : Ins := .cons 1 ⟨#[97, 32]⟩ 0 ⟨#[]⟩ ⟨#[]⟩ .nil (.cons 2 ⟨#[]⟩ 0 ⟨#[]⟩ ⟨#[]⟩ (.cons 1 ⟨#[98, 32]⟩ 0 ⟨#[]⟩ ⟨#[]⟩ .nil (.cons 3 ⟨#[]⟩ 0 ⟨#[]⟩ ⟨#[]⟩ (.cons 1 ⟨#[99]⟩ 0 ⟨#[]⟩ ⟨#[]⟩ .nil .nil) .nil)) (.cons 3 ⟨#[]⟩ 0 ⟨#[]⟩ ⟨#[]⟩ (.cons 1 ⟨#[32, 100]⟩ 0 ⟨#[]⟩ ⟨#[]⟩ .nil .nil) .nil))
theorem kn_read : read [97, 32, 39, 39, 39, 98, 32, 39, 39, 99, 39, 39, 39, 32, 100, 39, 39] = knT := by kernel_rfl
theorem kn_dec : dec [38, 35, 54, 53, 59, 38, 108, 116, 59] = [65, 60] := by kernel_rfl
theorem kn_plain : knT.plain = [97, 32, 98, 32, 99, 32, 100] := by kernel_rfl
set_option maxRecDepth 20000 in
set_option maxHeartbeats 4000000 in
theorem known_any (w : World) (hm : MX w) : Calls Tryz.prog 12 #[] w fun e w' => e = .returned (.bool true) ∧ Below w.heap.size w w' := by
  have hPA := pparse17_any ⟨#[97, 32, 39, 39, 39, 98, 32, 39, 39, 99, 39, 39, 39, 32, 100, 39, 39]⟩ w (by decide) hm
  have e0 : (⟨#[97, 32, 39, 39, 39, 98, 32, 39, 39, 99, 39, 39, 39, 32, 100, 39, 39]⟩ : ByteArray).data.toList = [97, 32, 39, 39, 39, 98, 32, 39, 39, 99, 39, 39, 39, 32, 100, 39, 39] := rfl
  rw [e0, kn_read] at hPA
  have hDE := fun W => pdecode_any ⟨#[38, 35, 54, 53, 59, 38, 108, 116, 59]⟩ W (by decide)
  have e1 : (⟨#[38, 35, 54, 53, 59, 38, 108, 116, 59]⟩ : ByteArray).data.toList = [38, 35, 54, 53, 59, 38, 108, 116, 59] := rfl
  rw [e1, kn_dec] at hDE
  have hlen : knT.len = 3 := rfl
  rw [hlen] at hPA
  have HPA := Lib.hid hPA
  have HDE := Lib.hid hDE
  clear hPA hDE e0 e1 hlen hm
  go_enter Tryz.func12, Tryz.ntmps12
  go_wp2_with fail
  refine HPA.out.mono ?_
  rintro e w1 ⟨p, c, rfl, hsl, hb1⟩
  have HSL := Lib.hid (sl_any hsl)
  have HB1 := Lib.hid hb1
  clear hsl hb1
  go_wp2_with fail
  refine (text_any _ _).mono ?_
  rintro e w2 ⟨rfl, hb2⟩
  go_wp2_with fail
  refine (text_any _ _).mono ?_
  rintro e w3 ⟨rfl, hb3⟩
  go_wp2_with fail
  refine (text_any _ _).mono ?_
  rintro e w4 ⟨rfl, hb4⟩
  go_wp2_with fail
  refine (text_any _ _).mono ?_
  rintro e w5 ⟨rfl, hb5⟩
  have A4 := one_sl (Known.made w4 42 #[.int .i64 1, .string ⟨#[99]⟩, .int .i64 0, .string ⟨#[]⟩, .string ⟨#[]⟩, .slice none 0 0]) (k := .nil) Sl.empty
  have B4 := two_sl (Known.made (w4.alloc (.cells #[.int .i64 1, .string ⟨#[99]⟩, .int .i64 0, .string ⟨#[]⟩, .string ⟨#[]⟩, .slice none 0 0] 42)) 42 #[.int .i64 1, .string ⟨#[98, 32]⟩, .int .i64 0, .string ⟨#[]⟩, .string ⟨#[]⟩, .slice none 0 0, .int .i64 3, .string ⟨#[]⟩, .int .i64 0, .string ⟨#[]⟩, .string ⟨#[]⟩, .slice (some ⟨w4.heap.size, 0, none⟩) 1 1]) (k := .nil) Sl.empty (sl_below A4 (below_new0 _ _))
  rw [World.size_alloc] at B4
  have B5 := sl_below B4 hb5
  have A5 := one_sl (Known.made w5 42 #[.int .i64 1, .string ⟨#[32, 100]⟩, .int .i64 0, .string ⟨#[]⟩, .string ⟨#[]⟩, .slice none 0 0]) (k := .nil) Sl.empty
  have D5 := three_sl (Known.made (w5.alloc (.cells #[.int .i64 1, .string ⟨#[32, 100]⟩, .int .i64 0, .string ⟨#[]⟩, .string ⟨#[]⟩, .slice none 0 0] 42)) 42 #[.int .i64 1, .string ⟨#[97, 32]⟩, .int .i64 0, .string ⟨#[]⟩, .string ⟨#[]⟩, .slice none 0 0, .int .i64 2, .string ⟨#[]⟩, .int .i64 0, .string ⟨#[]⟩, .string ⟨#[]⟩, .slice (some ⟨w4.heap.size + 1, 0, none⟩) 2 2, .int .i64 3, .string ⟨#[]⟩, .int .i64 0, .string ⟨#[]⟩, .string ⟨#[]⟩, .slice (some ⟨w5.heap.size, 0, none⟩) 1 1]) (k := .nil) Sl.empty (sl_below (sl_below B5 (below_new0 _ _)) (below_new0 _ _)) (sl_below A5 (below_new0 _ _))
  rw [World.size_alloc] at D5
  obtain ⟨W, hW⟩ : ∃ W, W = (w5.alloc (.cells #[.int .i64 1, .string ⟨#[32, 100]⟩, .int .i64 0, .string ⟨#[]⟩, .string ⟨#[]⟩, .slice none 0 0] 42)).alloc (.cells #[.int .i64 1, .string ⟨#[97, 32]⟩, .int .i64 0, .string ⟨#[]⟩, .string ⟨#[]⟩, .slice none 0 0, .int .i64 2, .string ⟨#[]⟩, .int .i64 0, .string ⟨#[]⟩, .string ⟨#[]⟩, .slice (some ⟨w4.heap.size + 1, 0, none⟩) 2 2, .int .i64 3, .string ⟨#[]⟩, .int .i64 0, .string ⟨#[]⟩, .string ⟨#[]⟩, .slice (some ⟨w5.heap.size, 0, none⟩) 1 1] 42) := ⟨_, rfl⟩
  rw [← hW] at D5
  have hbW : Below w1.heap.size w1 W := by
    rw [hW]
    exact below_then (below_then (below_then (below_then (below_then (below_then (below_then hb2 hb3) hb4) (below_new0 _ _)) (below_new0 _ _)) hb5) (below_new0 _ _)) (below_new0 _ _)
  have hsW := sl_below HSL.out hbW
  have hSA := same_any 10 Any Any knT p c (some ⟨w5.heap.size + 1, 0, none⟩) 3 W (by decide) (by decide) hsW D5
  have hlen : knT.len = 3 := rfl
  rw [hlen] at hSA
  have hPL := fun W' (hb : Below W.heap.size W W') => plain_any Any knT p c W' (by decide) (by decide) (sl_below hsW hb)
  rw [hlen, kn_plain] at hPL
  have HBW := Lib.hid (below_then HB1.out hbW)
  have HWW := Lib.hid hW
  have HSA := Lib.hid hSA
  have HPL := Lib.hid hPL
  clear A4 B4 B5 A5 D5 hW hbW hsW hSA hPL hlen hb2 hb3 hb4 hb5 HSL HB1
  go_wp2_with fail
  rw [← HWW.out]
  refine HSA.out.mono ?_
  rintro e w6 ⟨rfl, hb6⟩
  have HB6 := Lib.hid hb6
  clear hb6
  go_wp2_with fail
  refine (HPL.out w6 HB6.out).mono ?_
  rintro e w7 ⟨rfl, hb7⟩
  have HB7 := Lib.hid (below_then (below_then HBW.out HB6.out) hb7)
  clear hb7
  go_wp2_with fail
  refine (HDE.out _).mono ?_
  rintro e w8 ⟨rfl, hb8⟩
  have HB8 := Lib.hid (below_then HB7.out hb8)
  clear hb8
  go_wp2_with fail
  go_ret
  exact ⟨rfl, HB8.out⟩
end Go.Proofs.YtegcacnmcdkfiaaGreatDoor

namespace Go.Proofs.YtegcacnmcdkfiaaGreatDoor
open Go.RowKit Doc Tit Inl
set_option linter.unusedVariables false
attribute [local go_sem ↓] Go.wp_at_zero Go.wp_at_succ

/-- both readings, and Same of them -/
theorem same_read (l : List UInt8) (hl : l.length ≤ 100000) (p p' : Option Addr) (c c' : Nat) (w : World) (h : insS.sl Any w (.slice p (read l).len c) (read l)) (h' : insS.sl Any w (.slice p' (read l).len c') (read l)) :
    Calls Tryz.prog 13 #[.slice p (read l).len c, .slice p' (read l).len c'] w fun e w' => e = .returned (.bool true) ∧ Below w.heap.size w w' :=
  same_any _ Any Any (read l) p c p' c' w (Nat.lt_succ_self _) (by have := read_size l; omega) h h'
set_option maxRecDepth 10000 in
set_option maxHeartbeats 1000000 in
theorem law_parse (s : ByteArray) (w : World) (hm : MX w) : Calls Tryz.prog 3 #[.string s] w fun e w' => e = .returned (.bool true) ∧ Below w.heap.size w w' := by
  have hz : s.data.toList.length = s.size := by simp
  have HM := Lib.hid hm
  clear hm
  by_cases hs : s.size ≤ 600
  · have h1 := fun W => pparse17_any s W (by omega)
    have h2 := fun W => rparse17_any s W (by omega)
    have h3 := fun W => pdecode_any s W (by omega)
    have h4 := fun W => rdecode_any s W (by omega)
    have h5 := same_read s.data.toList (by omega)
    generalize (⟨(dec s.data.toList).toArray⟩ : ByteArray) = T at *
    obtain ⟨L, hL⟩ : ∃ L, L = read s.data.toList := ⟨_, rfl⟩
    rw [← hL] at h5
    simp only [← hL] at h1 h2
    obtain ⟨n, hn⟩ : ∃ n, n = L.len := ⟨_, rfl⟩
    rw [← hn] at h5
    simp only [← hn] at h1 h2
    have H1 := Lib.hid h1
    have H2 := Lib.hid h2
    have H3 := Lib.hid h3
    have H4 := Lib.hid h4
    have H5 := Lib.hid h5
    have g0 : decide (600 < (s.size : Int)) = false := by simp; omega
    clear h1 h2 h3 h4 h5 hL hn hz
    go_enter Tryz.func3, Tryz.ntmps3
    go_wp2_with fail
    refine (H1.out _ HM.out).mono ?_
    rintro e w1 ⟨p1, c1, rfl, hs1, hb1⟩
    have HS1 := Lib.hid (sl_any hs1)
    have HB1 := Lib.hid hb1
    clear hs1 hb1
    go_wp2_with fail
    refine (H2.out _).mono ?_
    rintro e w2 ⟨p2, c2, rfl, hs2, hb2⟩
    have HC := Lib.hid (H5.out p1 p2 c1 c2 w2 (sl_below HS1.out hb2) (sl_any hs2))
    have HB2 := Lib.hid (below_then HB1.out hb2)
    clear hs2 hb2
    go_wp2_with fail
    refine HC.out.mono ?_
    rintro e w3 ⟨rfl, hb3⟩
    have HB3 := Lib.hid (below_then HB2.out hb3)
    clear hb3
    go_wp2_with fail
    refine (H3.out _).mono ?_
    rintro e w4 ⟨rfl, hb4⟩
    go_wp2_with fail
    refine (H4.out _).mono ?_
    rintro e w5 ⟨rfl, hb5⟩
    have HB5 := Lib.hid (below_then (below_then HB3.out hb4) hb5)
    clear hb4 hb5
    go_wp2_with fail
    refine (known_any _ (HM.out.below HB5.out)).mono ?_
    rintro e w6 ⟨rfl, hb6⟩
    go_wp2_with fail
    go_ret
    exact ⟨rfl, below_then HB5.out hb6⟩
  · have g0 : decide (600 < (s.size : Int)) = true := by simp; omega
    clear hz
    go_enter Tryz.func3, Tryz.ntmps3
    go_wp2_with fail
    refine (known_any _ HM.out).mono ?_
    rintro e w6 ⟨rfl, hb6⟩
    go_wp2_with fail
    go_ret
    exact ⟨rfl, hb6⟩
end Go.Proofs.YtegcacnmcdkfiaaGreatDoor
