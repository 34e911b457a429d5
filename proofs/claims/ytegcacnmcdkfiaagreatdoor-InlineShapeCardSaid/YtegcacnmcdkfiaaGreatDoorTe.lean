/-
  strings.IndexRune of ASCII bytes and a rune that is none of them; strings.IndexAny and ContainsAny of any text and some ASCII bytes. Conditions: those typed in each theorem.
-/
import Derived.Test.YtegcacnmcdkfiaaGreatDoorTb
import Derived.Test.YtegcacnmcdkfiaaGreatDoorShelf
import Derived.Laws.RangeAny
import Derived.Laws.Runes
import Derived.Lib.IndexAny
import Derived.Lib.Hide
import Derived.Lib.OthersKept
import Derived.WalkMore
import Derived.Deep.QuietTactic
import Derived.BigQuiet

namespace Go.Proofs.YtegcacnmcdkfiaaGreatDoor
open Go.RowKit Go.Lib
set_option linter.unusedVariables false

theorem iter_below (w : World) (s : ByteArray) (n : Nat) : Below w.heap.size w (w.iter s n) := below_new0 w _
/-- behind the first byte of a rune of some bytes the others are no ASCII -/
theorem decode_skip (s : ByteArray) (pos : Nat) (h : pos < s.size) (ha : 128 ≤ (s[pos]'h).toNat) : pos + (Utf8.decode s pos).2 ≤ s.size ∧ ∀ k, pos ≤ k → k < pos + (Utf8.decode s pos).2 → 128 ≤ (s.get! k).toNat := by
  have hn : ¬ (s[pos]'h).toNat < 128 := by omega
  have h0 : (s.get! pos).toNat = (s[pos]'h).toNat := by rw [← get_at s pos h]; rfl
  have hc : ∀ k, (s.get! (pos + k)).toNat / 64 = 2 → 128 ≤ (s.get! (pos + k)).toNat := fun k h => by omega
  have fin : ∀ n, (∀ k, 1 ≤ k → k < n → 128 ≤ (s.get! (pos + k)).toNat) → ∀ k, pos ≤ k → k < pos + n → 128 ≤ (s.get! k).toNat := fun n hk k h1 h2 => by
    by_cases e : k = pos
    · rw [e]; omega
    · obtain ⟨j, rfl⟩ : ∃ j, k = pos + j := ⟨k - pos, by omega⟩
      exact hk j (by omega) (by omega)
  simp only [Utf8.decode, get_at s pos h, hn, if_false]
  repeat' split
  all_goals simp_all only [Bool.and_eq_true, decide_eq_true_eq, beq_iff_eq]
  all_goals refine ⟨by first | omega | (dsimp only; omega), fin _ fun k h1 h2 => ?_⟩
  all_goals first
    | omega
    | (have : k = 1 ∨ k = 2 ∨ k = 3 := by omega
       rcases this with rfl | rfl | rfl <;> first | omega | exact hc _ (by simp_all))
theorem idxByte_high (s : ByteArray) (n : Nat) (x : UInt8) (hn : n < s.size) (hc : ∀ (j : Nat) b, s.data.toList[j]? = some b → b.toNat < 128) (hx : 128 ≤ x.toNat) : Lib.indexByte (s.extract (n + 1) s.size).data.toList x = -1 := by
  rw [← Lib.firstIdx_eq]
  refine firstIdx_ascii s (n + 1) s.size x (fun b hb => ?_) hx
  obtain ⟨j, hj⟩ := List.mem_iff_getElem?.1 hb
  exact hc j b hj
set_option maxRecDepth 20000 in
set_option maxHeartbeats 2000000 in
theorem idxRune_high (s : ByteArray) (hs : s.size ≤ 100) (hc : ∀ (j : Nat) b, s.data.toList[j]? = some b → b.toNat < 128) (r : Nat) (h1 : 128 ≤ r) (h2 : r ≤ 2147483647) (w : World) :
    Calls Tryz.prog 86 #[.string s, .int .i32 r] w fun e w' => e = .returned (.int .i64 (-1)) ∧ Below w.heap.size w w' := by
  have HC := Lib.hid hc
  have g0 : decide ((r : Int) < 128) = false := decide_eq_false (by omega)
  have g00 : decide ((0 : Int) ≤ (r : Int)) = true := decide_eq_true (by omega)
  by_cases hr : r = 65533
  · subst hr
    clear g0 g00 h1 h2 hc
    go_enter Tryz.func86, Tryz.ntmps86
    go_wp2_with fail
    go_loopg [5, 6] s.size (fun g _ _ wx => ∃ i : Nat, i + g = s.size ∧ wx = w.iter s i)
    case atStart => exact ⟨0, by omega, rfl⟩
    case round =>
      obtain ⟨i, hig, rfl⟩ := hrel
      cases gk with
      | zero =>
        obtain rfl : i = s.size := by omega
        have hnx := fun ty => run_next_end (P := Tryz.prog) w s s.size ty (by omega)
        go_wp2_with fail
        go_ret
        exact ⟨rfl, iter_below _ _ _⟩
      | succ g =>
        have hi : i < s.size := by omega
        obtain ⟨x, hx⟩ : ∃ x : UInt8, s[i]'hi = x := ⟨_, rfl⟩
        have hx128 : x.toNat < 128 := HC.out i x (by rw [← hx]; exact Lib.data_getElem? s i hi)
        have hnx := fun ty => run_next_ascii (P := Tryz.prog) w s i ty hi (by rw [hx]; exact hx128)
        rw [hx] at hnx
        have g1 : ((x.toNat : Int) == 65533) = false := beq_eq_false_iff_ne.2 (by omega)
        go_wp2_with fail
        go_roundg g
        case measure => omega
        case rel => exact ⟨i + 1, by omega, rfl⟩
  have g1 : ((r : Int) == 65533) = false := beq_eq_false_iff_ne.2 (by omega)
  cases hv : Lib.validRune (r : Int) with
  | false =>
    clear hc h1 h2
    go_enter Tryz.func86, Tryz.ntmps86
    go_wp2_with fail
    refine (Tryz.utf8_ValidRune _ _).mono ?_
    rintro e w1 ⟨rfl, hw⟩
    rw [hw, hv]
    go_wp2_with fail
    go_ret
    exact ⟨rfl, Below.refl _ _⟩
  | true =>
    obtain ⟨z1, z2, z3⟩ := encode_facts (r : Int) (by rw [validRune_eq]; exact hv) (by omega)
    obtain ⟨R, hR⟩ : ∃ R, Utf8.encode (r : Int) = R := ⟨_, rfl⟩
    rw [hR] at z1 z2 z3
    obtain ⟨n, hn⟩ : ∃ n, R.size = n + 1 := ⟨R.size - 1, by omega⟩
    have hlt : n < R.size := by omega
    obtain ⟨x, hx⟩ : ∃ x : UInt8, R[n]'hlt = x := ⟨_, rfl⟩
    have hx128 : 128 ≤ x.toNat := by
      have := z3 (by omega)
      have e : R.size - 1 = n := by omega
      simp only [e, hx] at this
      exact this
    have hcv := fun W => run_convert_int_string (P := Tryz.prog) W 21 9 .i32 (r : Int) (by rw [Tryz.underlying21]; rfl) Tryz.underlying9
    simp only [hR] at hcv
    clear hc h1 h2 z3 hR
    go_enter Tryz.func86, Tryz.ntmps86
    go_wp2_with fail
    refine (Tryz.utf8_ValidRune _ _).mono ?_
    rintro e w1 ⟨rfl, hw⟩
    rw [hw, hv]
    go_wp2_with fail
    go_step3
    go_wp2_with fail
    go_loopg [9, 10, 11, 12] 1 (fun g s9 s10 s11 s12 wx => s9 = .int .i64 n ∧ s10 = .int .i64 0 ∧ wx = w)
    case atStart => exact ⟨by go_num, rfl, rfl⟩
    case round =>
      obtain ⟨rfl, rfl, rfl⟩ := hrel
      by_cases hsz : n < s.size
      · have g2 : decide ((n : Int) < (s.size : Int)) = true := decide_eq_true (by omega)
        have b1 : (n : Int) < (s.size : Int) := by omega
        have b2 : (n : Int) < (R.size : Int) := by omega
        have b0 : (0 : Int) ≤ (n : Int) := by omega
        obtain ⟨y, hy⟩ : ∃ y : UInt8, s[n]'hsz = y := ⟨_, rfl⟩
        have hy128 : y.toNat < 128 := HC.out n y (by rw [← hy]; exact Lib.data_getElem? s n hsz)
        have hne : ((y.toNat : Int) != (x.toNat : Int)) = true := by simp; omega
        go_wp2_with fail
        go_step3
        go_wp2_with fail
        go_quiet (fail)
        go_wp2_with fail
        obtain ⟨m, hm⟩ : ∃ m, m = n + 1 := ⟨_, rfl⟩
        have hib : ∀ W, Calls Tryz.prog 25 #[.string (s.extract m s.size), .int .u8 (x.toNat : Nat)] W fun e w' => e = .returned (.int .i64 (-1)) ∧ w' = W := fun W => (Tryz.strings_IndexByte _ _ W).mono fun e w' ⟨h1, h2⟩ => ⟨by rw [h1]; simp only [Int.toNat_natCast, UInt8.ofNat_toNat, Nat.toUInt8]; rw [hm, idxByte_high s n x hsz HC.out hx128], h2⟩
        have hwr : IntKind.i64.wrap ((n : Int) + 1) = (m : Int) := by rw [hm]; exact wrap_small _ (by omega) (by omega)
        have b3 : (m : Int) ≤ (s.size : Int) := by omega
        have HIB := Lib.hid hib
        have b4 : m ≤ s.size := by omega
        clear b0 b1 b2 hib hne hy128 hm
        have b5 : (0 : Int) ≤ (n : Int) := by omega
        have b6 : (n : Int) < (R.size : Int) := by omega
        clear hn
        go_region_with ((go_at_call 25; refine (HIB.out _).mono ?_; rintro e w' ⟨rfl, hw⟩; rw [hw]))
        all_goals
          go_wp2_with fail
          rw [Exit.noGoto_ret]
          go_wp2_with fail
          rw [Exit.noGoto_ret]
          go_ret
          exact ⟨rfl, below_drewN (Below.refl _ _) _⟩
      · have g2 : decide ((n : Int) < (s.size : Int)) = false := decide_eq_false (by omega)
        go_wp2_with fail
        rw [Exit.noGoto_ret]
        go_ret
        exact ⟨rfl, Below.refl _ _⟩
set_option maxRecDepth 20000 in
set_option maxHeartbeats 2000000 in
/-- a text of at most 8 bytes, of any kind -/
theorem idxAny_short (s chars : ByteArray) (w : World) (h2 : 2 ≤ chars.size) (h3 : chars.size ≤ 100) (h8 : s.size ≤ 8) (hc : ∀ (j : Nat) b, chars.data.toList[j]? = some b → b.toNat < 128) :
    Calls Tryz.prog 51 #[.string s, .string chars] w fun e w' => e = .returned (.int .i64 (Lib.indexAny s.data.toList chars.data.toList)) ∧ Below w.heap.size w w' := by
  have hemp : chars.toList.isEmpty = false := by
    rw [Lib.toList_data]
    cases h : chars.data.toList with
    | nil => have := Lib.size_eq chars; rw [h, List.length_nil] at this; omega
    | cons _ _ => rfl
  have hn1 : ((chars.size : Int) == 1) = false := beq_eq_false_iff_ne.2 (by omega)
  have h8z : decide ((8 : Int) < (s.size : Int)) = false := decide_eq_false (by omega)
  have HC := Lib.hid hc
  clear hc
  go_enter Tryz.func51, Tryz.ntmps51
  go_wp2_with fail
  refine (Tryz.strings_shouldUseASCIISet _ _).mono ?_
  rintro e w1 ⟨rfl, hw⟩
  rw [hw, h8z]
  clear hw
  go_wp2_with fail
  go_loopg [9, 10] s.size (fun g _ _ wx => ∃ i : Nat, s.size ≤ i + g ∧ i ≤ s.size ∧ wx.heap[w.heap.size]? = some (.stringIter s i) ∧ Below w.heap.size w wx ∧ Lib.NoAny s.data.toList chars.data.toList i)
  case atStart => exact ⟨0, by omega, by omega, World.iter_heap _ _ _, iter_below _ _ _, Lib.NoAny.zero _ _⟩
  case round =>
    obtain ⟨i, hi1, hi2, hk, hb, hno⟩ := hrel
    have HN := Lib.hid hno
    have HB := Lib.hid hb
    have HK := Lib.hid hk
    have hlt : w.heap.size < wr.heap.size := (Array.getElem?_eq_some_iff.1 hk).1
    clear hno hb
    by_cases hi : i < s.size
    · cases gk with
      | zero => omega
      | succ g =>
        obtain ⟨x, hx⟩ : ∃ x : UInt8, s[i]'hi = x := ⟨_, rfl⟩
        have hxl : s.data.toList[i]? = some x := by rw [← hx]; exact Lib.data_getElem? s i hi
        have Hx := Lib.hid hxl
        by_cases ha : x.toNat < 128
        · have hnx := fun ty => run_next_ascii_at (P := Tryz.prog) wr w.heap.size s i ty hk hi (by rw [hx]; exact ha)
          rw [hx] at hnx
          have hcon := Lib.contains_iff_indexByte chars.data.toList x
          have hback : ((x.toNat : Int)).toNat.toUInt8 = x := by simp
          have hiw : Below w.heap.size w (wr.iterAt w.heap.size s (i + 1)) := below_iterAt HB.out (Nat.le_refl _) _ _
          have hiz : (wr.iterAt w.heap.size s (i + 1)).heap[w.heap.size]? = some (.stringIter s (i + 1)) := iterAt_heap _ _ _ _ _ hk
          have HI := Lib.hid (And.intro hiw hiz)
          clear hiw hiz hk hx hxl
          cases hin : chars.data.toList.contains x
          · rw [hin] at hcon
            have hlt' : ¬ ((0 : Int) ≤ Lib.indexByte chars.data.toList x) := of_decide_eq_false hcon.symm
            clear hcon
            go_wp2_with fail
            refine (Tryz.strings_IndexRune_ascii _ _ _ (by omega) (by omega)).mono ?_
            rintro e w2 ⟨rfl, hw⟩
            rw [hw, hback]
            clear hw
            go_wp2_with fail
            go_roundg g
            case measure => omega
            case rel => exact ⟨i + 1, by omega, by omega, HI.out.2, HI.out.1, HN.out.succ Hx.out hin⟩
          · rw [hin] at hcon
            have hge : (0 : Int) ≤ Lib.indexByte chars.data.toList x := of_decide_eq_true hcon.symm
            clear hcon
            go_wp2_with fail
            refine (Tryz.strings_IndexRune_ascii _ _ _ (by omega) (by omega)).mono ?_
            rintro e w2 ⟨rfl, hw⟩
            rw [hw, hback]
            clear hw
            go_wp2_with fail
            go_ret
            exact ⟨by rw [Lib.indexAny_hit HN.out Hx.out hin]; rfl, HI.out.1⟩
        · obtain ⟨d1, d2⟩ := decode_skip s i hi (by rw [hx]; omega)
          obtain ⟨e1, e2⟩ := decode_high s i hi (by rw [hx]; omega)
          have e3 := decode_le s i
          have hnx := fun ty => run_next_any_at (P := Tryz.prog) wr w.heap.size s i ty hk hi
          obtain ⟨r, hr⟩ : ∃ r, (Utf8.decode s i).1 = r := ⟨_, rfl⟩
          obtain ⟨n, hn⟩ : ∃ n, (Utf8.decode s i).2 = n := ⟨_, rfl⟩
          rw [hr] at hnx e1 e3
          rw [hn] at hnx d1 d2 e2
          have hiw : Below w.heap.size w (wr.iterAt w.heap.size s (i + n)) := below_iterAt HB.out (Nat.le_refl _) _ _
          have hiz : (wr.iterAt w.heap.size s (i + n)).heap[w.heap.size]? = some (.stringIter s (i + n)) := iterAt_heap _ _ _ _ _ hk
          have HI := Lib.hid (And.intro hiw hiz)
          have hno : Lib.NoAny s.data.toList chars.data.toList (i + n) := fun j b hj hb => by
            by_cases hji : j < i
            · exact HN.out j b hji hb
            · have h5 := d2 j (by omega) hj
              have h6 : s.get! j = b := by
                have hjl : j < s.size := by omega
                have h7 : s.data.toList[j]? = some (s[j]'hjl) := Lib.data_getElem? s j hjl
                rw [h7] at hb
                injection hb with hb
                rw [← hb]
                have := get_at s j hjl
                rwa [Nat.add_zero] at this
              rw [h6] at h5
              cases hcc : chars.data.toList.contains b with
              | false => rfl
              | true =>
                obtain ⟨q, hq⟩ := List.mem_iff_getElem?.1 (List.contains_iff_mem.1 hcc)
                have := HC.out q b hq
                omega
          have HN2 := Lib.hid hno
          clear hiw hiz hk hx hxl hno d2 hr hn
          go_wp2_with fail
          refine (idxRune_high chars h3 HC.out r e1 e3 _).mono ?_
          rintro e w2 ⟨rfl, hb2⟩
          have hb2 := hb2
          rw [iterAt_size] at hb2
          go_wp2_with fail
          go_roundg g
          case measure => omega
          case rel => exact ⟨i + n, by omega, by omega, by rw [hb2.block _ hlt]; exact HI.out.2, HI.out.1.trans (hb2.mono (by omega)), HN2.out⟩
    · obtain rfl : i = s.size := by omega
      have hnx := fun ty => run_next_end_at (P := Tryz.prog) wr w.heap.size s s.size ty hk (by omega)
      clear hk
      go_wp2_with fail
      go_ret
      exact ⟨by rw [Lib.indexAny_none (by rw [← Lib.size_eq]; exact HN.out)]; rfl, HB.out⟩
/-- .. of any text and some ASCII bytes -/
theorem idxAny_any (s chars : ByteArray) (w : World) (hs : s.size ≤ 100000) (h2 : 2 ≤ chars.size) (h3 : chars.size ≤ 100) (hc : ∀ (j : Nat) b, chars.data.toList[j]? = some b → b.toNat < 128) :
    Calls Tryz.prog 51 #[.string s, .string chars] w fun e w' => e = .returned (.int .i64 (Lib.indexAny s.data.toList chars.data.toList)) ∧ Below w.heap.size w w' := by
  by_cases h8 : s.size ≤ 8
  · exact idxAny_short s chars w h2 h3 h8 hc
  · refine (Tryz.strings_IndexAny_long ?_ s chars w h2 (by omega) (by omega) (by omega) hc).mono fun e w' ⟨h1, h2⟩ => ⟨h1, ?_⟩
    · exact (zero_of_info (n := 256) (by kernel_rfl)).1
    · rw [h2]
      exact ((Below.refl _ _).alloc (Nat.le_refl _) _).alloc (by simp) _
set_option maxRecDepth 20000 in
theorem containsAny_any (s chars : ByteArray) (w : World) (hs : s.size ≤ 100000) (h2 : 2 ≤ chars.size) (h3 : chars.size ≤ 100) (hc : ∀ (j : Nat) b, chars.data.toList[j]? = some b → b.toNat < 128) :
    Calls Tryz.prog 27 #[.string s, .string chars] w fun e w' => e = .returned (.bool (Lib.containsAny s.data.toList chars.data.toList)) ∧ Below w.heap.size w w' := by
  have H := Lib.hid (idxAny_any s chars w hs h2 h3 hc)
  clear hc
  go_enter Tryz.func27, Tryz.ntmps27
  go_wp2_with fail
  refine H.out.mono ?_
  rintro e w1 ⟨rfl, hb⟩
  go_wp2_with fail
  go_ret
  exact ⟨rfl, hb⟩
end Go.Proofs.YtegcacnmcdkfiaaGreatDoor
