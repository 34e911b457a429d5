/-
  The law InlineText: a text without special bytes reads as one element. Condition: the library's MaxLen holds a number.
-/
import Derived.Test.YtegcacnmcdkfiaaGreatDoorTv
import Derived.Test.YtegcacnmcdkfiaaGreatDoorTc
import Derived.Test.YtegcacnmcdkfiaaGreatDoorTe

namespace Go.Proofs.YtegcacnmcdkfiaaGreatDoor
open Go.RowKit Doc Tit Inl
set_option linter.unusedVariables false
attribute [local go_sem ↓] Go.wp_at_zero Go.wp_at_succ

/-- the sanity check behind what has been done -/
theorem known_then (w : World) (hm : MX w) : ∀ W, Below w.heap.size w W → Calls Tryz.prog 12 #[] W fun e w' => e = .returned (.bool true) ∧ Below w.heap.size w w' :=
  fun W hb => (known_any W (hm.below hb)).mono fun e w' ⟨h1, h2⟩ => ⟨h1, below_then hb h2⟩
theorem bytes_mk (s : ByteArray) : (⟨s.data.toList.toArray⟩ : ByteArray) = s := by simp
theorem cany_none {s chars : List UInt8} (h : Lib.containsAny s chars = false) : ∀ c ∈ s, chars.contains c = false := by
  intro c hc
  cases hcc : chars.contains c with
  | false => rfl
  | true =>
    exfalso
    have h1 : ∀ {l : List UInt8}, c ∈ l → 0 ≤ Lib.indexAny l chars := by
      intro l
      induction l with
      | nil => intro h; cases h
      | cons a l ih =>
        intro h
        unfold Lib.indexAny
        split
        · omega
        · rename_i ha
          rcases List.mem_cons.1 h with rfl | h
          · exact absurd hcc ha
          · have h2 := ih h
            have h3 : (Lib.indexAny l chars == -1) = false := beq_eq_false_iff_ne.2 (by omega)
            rw [h3]
            simp
            omega
    have h2 := h1 hc
    rw [Lib.containsAny, decide_eq_false_iff_not] at h
    exact h h2
theorem pl_of {l : List UInt8} (h : Lib.containsAny l [91, 60, 38, 39] = false) : ∀ c ∈ l, pl c := by
  intro c hc
  have := cany_none h c hc
  simp only [List.contains_cons, List.contains_nil, Bool.or_false, Bool.or_eq_false_iff, beq_eq_false_iff_ne] at this
  exact this
theorem hi_special : ∀ (j : Nat) b, (⟨#[91, 60, 38, 39]⟩ : ByteArray).data.toList[j]? = some b → b.toNat < 128 := by
  intro j b h
  have : b ∈ ([91, 60, 38, 39] : List UInt8) := List.mem_of_getElem? h
  simp only [List.mem_cons, List.not_mem_nil, or_false] at this
  rcases this with rfl | rfl | rfl | rfl <;> decide
/-- one element with a text -/
def tx (s : ByteArray) : Ins := .cons 1 s 0 ⟨#[]⟩ ⟨#[]⟩ .nil .nil
theorem tx_size (s : ByteArray) : (tx s).size = 1 := by simp [tx, Ins.size]
theorem tx_len (s : ByteArray) : (tx s).len = 1 := rfl
theorem tx_txt (s : ByteArray) : txt s.data.toList = tx s := by rw [txt, el, bytes_mk]; rfl
theorem tx_plain (s : ByteArray) : (tx s).plain = s.data.toList := by simp [tx, Ins.plain]
theorem tx_bulk (s : ByteArray) : (tx s).bulk ≤ s.size + 10 := by simp [tx, Ins.bulk]
theorem same_of (L : Ins) (h : L.size ≤ 1000000) (p : Option Addr) (c : Nat) (p' : Option Addr) (c' : Nat) (w : World) (h1 : insS.sl Any w (.slice p L.len c) L) (h2 : insS.sl Any w (.slice p' L.len c') L) :
    Calls Tryz.prog 13 #[.slice p L.len c, .slice p' L.len c'] w fun e w' => e = .returned (.bool true) ∧ Below w.heap.size w w' := same_any _ Any Any L p c p' c' w (Nat.lt_succ_self _) h h1 h2
/-- a list with one text, as the laws make it -/
theorem tx_sl (w : World) (s : ByteArray) : insS.sl Any (w.alloc (.cells #[.int .i64 1, .string s, .int .i64 0, .string ⟨#[]⟩, .string ⟨#[]⟩, .slice none 0 0] 42)) (.slice (some ⟨w.heap.size, 0, none⟩) 1 1) (tx s) :=
  one_sl (Known.made w 42 #[.int .i64 1, .string s, .int .i64 0, .string ⟨#[]⟩, .string ⟨#[]⟩, .slice none 0 0]) (k := .nil) Sl.empty
set_option maxRecDepth 10000 in
set_option maxHeartbeats 1000000 in
theorem law_text (s : ByteArray) (w : World) (hm : MX w) : Calls Tryz.prog 8 #[.string s] w fun e w' => e = .returned (.bool true) ∧ Below w.heap.size w w' := by
  have hz : s.data.toList.length = s.size := by simp
  have HK := Lib.hid (known_then w hm)
  have HM := Lib.hid hm
  clear hm
  by_cases hs : s.size ≤ 600
  case neg =>
    have g0 : decide (600 < (s.size : Int)) = true := by simp; omega
    go_enter Tryz.func8, Tryz.ntmps8
    go_wp2_with fail
    refine (HK.out _ (Below.refl _ _)).mono ?_
    rintro e w6 ⟨rfl, hb6⟩
    go_wp2_with fail
    go_ret
    exact ⟨rfl, hb6⟩
  have g0 : decide (600 < (s.size : Int)) = false := by simp; omega
  have hC := containsAny_any s ⟨#[91, 60, 38, 39]⟩ w (by omega) (by decide) (by decide) hi_special
  have e0 : (⟨#[91, 60, 38, 39]⟩ : ByteArray).data.toList = [91, 60, 38, 39] := rfl
  rw [e0] at hC
  cases hca : Lib.containsAny s.data.toList [91, 60, 38, 39] with
  | true =>
    rw [hca] at hC
    have HC := Lib.hid hC
    clear hC hca hz e0
    go_enter Tryz.func8, Tryz.ntmps8
    go_wp2_with fail
    refine HC.out.mono ?_
    rintro e w1 ⟨rfl, hb1⟩
    go_wp2_with fail
    refine (HK.out _ hb1).mono ?_
    rintro e w6 ⟨rfl, hb6⟩
    go_wp2_with fail
    go_ret
    exact ⟨rfl, hb6⟩
  | false =>
    rw [hca] at hC
    have hpl := pl_of hca
    have hrd := read_pl hpl
    have hP := fun W hb => pparse17_any s W (by omega) (HM.out.below hb : MX W)
    cases he : s.toList.isEmpty with
    | true =>
      have hs0 : s = ByteArray.empty := by
        have h1 : s.data.toList = [] := by rw [← Lib.toList_data]; exact List.isEmpty_iff.1 he
        rw [← bytes_mk s, h1]; rfl
      have hn : s.data.toList = [] := by rw [hs0]; rfl
      rw [if_pos hn] at hrd
      simp only [hrd, Ins.len] at hP
      have HC := Lib.hid hC
      have HP := Lib.hid hP
      clear hC hca hz e0 hP hrd hpl hn hs0
      go_enter Tryz.func8, Tryz.ntmps8
      go_wp2_with fail
      refine HC.out.mono ?_
      rintro e w1 ⟨rfl, hb1⟩
      go_wp2_with fail
      refine (HP.out _ hb1).mono ?_
      rintro e w2 ⟨p1, c1, rfl, hs1, hb2⟩
      go_wp2_with fail
      refine (HK.out _ (below_then hb1 hb2)).mono ?_
      rintro e w6 ⟨rfl, hb6⟩
      go_wp2_with fail
      go_ret
      exact ⟨rfl, hb6⟩
    | false =>
      have hne : s.data.toList ≠ [] := fun e => by rw [Lib.toList_data, e] at he; cases he
      rw [if_neg hne] at hrd
      have hdc : dec s.data.toList = s.data.toList := dec_pl fun c hc => (hpl c hc).2.2.1
      rw [hrd, tx_txt, tx_len] at hP
      have hD := fun W => pdecode_any s W (by omega)
      rw [hdc, bytes_mk] at hD
      have hS := same_of (tx s) (by rw [tx_size]; decide)
      have hPL := fun p c W => plain_any Any (tx s) p c W (by rw [tx_size]; decide) (by have := tx_bulk s; omega)
      rw [tx_plain, bytes_mk] at hPL
      simp only [tx_len] at hS hPL
      have HC := Lib.hid hC
      have HP := Lib.hid hP
      have HD := Lib.hid hD
      have HS := Lib.hid hS
      have HPL := Lib.hid hPL
      clear hC hca hz e0 hP hrd hpl hne hdc hD hS hPL
      go_enter Tryz.func8, Tryz.ntmps8
      go_wp2_with fail
      refine HC.out.mono ?_
      rintro e w1 ⟨rfl, hb1⟩
      go_wp2_with fail
      refine (HP.out _ hb1).mono ?_
      rintro e w2 ⟨p1, c1, rfl, hs1, hb2⟩
      have HB2 := Lib.hid (below_then hb1 hb2)
      have HS1 := Lib.hid (sl_any hs1)
      clear hs1 hb1 hb2
      go_wp2_with fail
      refine (text_any _ _).mono ?_
      rintro e w3 ⟨rfl, hb3⟩
      have HB3 := Lib.hid (below_then (below_then HB2.out hb3) (below_new0 w3 (.cells #[.int .i64 1, .string s, .int .i64 0, .string ⟨#[]⟩, .string ⟨#[]⟩, .slice none 0 0] 42)))
      have HS3 := Lib.hid (sl_below HS1.out (below_then hb3 (below_new0 w3 (.cells #[.int .i64 1, .string s, .int .i64 0, .string ⟨#[]⟩, .string ⟨#[]⟩, .slice none 0 0] 42))))
      have HT := Lib.hid (tx_sl w3 s)
      clear hb3
      go_wp2_with fail
      refine (HS.out p1 c1 (some ⟨w3.heap.size, 0, none⟩) 1 _ HS3.out HT.out).mono ?_
      rintro e w4 ⟨rfl, hb4⟩
      have HB4 := Lib.hid (below_then HB3.out hb4)
      have HS4 := Lib.hid (sl_below HS3.out hb4)
      clear hb4
      go_wp2_with fail
      refine (HPL.out p1 c1 _ HS4.out).mono ?_
      rintro e w5 ⟨rfl, hb5⟩
      have HB5 := Lib.hid (below_then HB4.out hb5)
      clear hb5
      go_wp2_with fail
      refine (HD.out _).mono ?_
      rintro e w6 ⟨rfl, hb6⟩
      have HB6 := Lib.hid (below_then HB5.out hb6)
      clear hb6
      go_wp2_with fail
      refine (HK.out _ HB6.out).mono ?_
      rintro e w7 ⟨rfl, hb7⟩
      go_wp2_with fail
      go_ret
      exact ⟨rfl, hb7⟩
end Go.Proofs.YtegcacnmcdkfiaaGreatDoor
