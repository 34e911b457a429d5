/-
  The reference's Anchor. Conditions: those typed in each theorem.
-/
import Derived.Test.YtibmemaciahofaaDoorAncW
import Derived.BigGuard
namespace Go.Proofs.YtibmemaciahofaaDoor
open Go.RowKit
set_option linter.unusedVariables false

def letB (n : Nat) : Bool := decide ((48 ≤ n ∧ n ≤ 57) ∨ (97 ≤ n ∧ n ≤ 122) ∨ (65 ≤ n ∧ n ≤ 90))
set_option maxRecDepth 10000 in
set_option maxHeartbeats 1000000 in
theorem letter_any (n : Nat) (hn : n < 256) (w : World) : Calls Tryd.prog 31 #[.int .u8 n] w fun e w' => e = .returned (.bool (letB n)) ∧ w = w' := by
  have hc : n ≤ 47 ∨ (48 ≤ n ∧ n ≤ 57) ∨ (58 ≤ n ∧ n ≤ 64) ∨ (65 ≤ n ∧ n ≤ 90) ∨ (91 ≤ n ∧ n ≤ 96) ∨ (97 ≤ n ∧ n ≤ 122) ∨ 123 ≤ n := by omega
  obtain ⟨r, hr⟩ : ∃ r, letB n = r := ⟨_, rfl⟩
  rw [hr]
  have HR := Lib.hid hr
  clear hr
  rcases hc with h | h | h | h | h | h | h
  all_goals
    go_enter Tryd.func31, Tryd.ntmps31
    go_wp2_with fail
    go_ret
    have := HR.out
    unfold letB at this
    refine ⟨ret_bool ?_, rfl⟩
    rw [← this, Bool.eq_iff_iff]
    simp
    omega
theorem wrap_u8 {x : Int} (h0 : 0 ≤ x) (h1 : x ≤ 255) : IntKind.u8.wrap x = x := by
  show x % 256 = x
  omega
theorem hex_ext : ∀ m : Fin 16, ({ data := #[48, 49, 50, 51, 52, 53, 54, 55, 56, 57, 65, 66, 67, 68, 69, 70] } : ByteArray).extract m.val (m.val + 1) = ⟨#[Anc.hexd m.val]⟩ := by decide
set_option maxRecDepth 10000 in
set_option maxHeartbeats 1000000 in
theorem hex_any (n : Nat) (hn : n < 256) (w : World) : Calls Tryd.prog 32 #[.int .u8 n] w fun e w' => e = .returned (.string ⟨#[Anc.hexd (n / 16), Anc.hexd (n % 16)]⟩) ∧ Below w.heap.size w w' := by
  go_enter Tryd.func32, Tryd.ntmps32
  go_wp2_with fail
  have f1 : IntKind.u8.wrap ((n : Int) / 16 + 1) = (n : Int) / 16 + 1 := wrap_u8 (by omega) (by omega)
  have f2 : IntKind.u8.wrap ((n : Int) % 16 + 1) = (n : Int) % 16 + 1 := wrap_u8 (by omega) (by omega)
  have f3 : (0 : Int) ≤ (n : Int) / 16 := by omega
  have f4 : (n : Int) / 16 + 1 ≤ 16 := by omega
  have f5 : (0 : Int) ≤ (n : Int) % 16 := by omega
  have f6 : (n : Int) % 16 + 1 ≤ 16 := by omega
  refine wp_region_gr (by kernel_rfl) (by kernel_rfl) ?_
  repeat (go_big_quiet_step (fail))
  refine wpQuiet_nil ?_
  intro _ hw'; obtain ⟨w5, hw''⟩ := hw'; subst hw''
  go_wp2_with fail
  go_ret
  refine ⟨congrArg (fun x => Ending.returned (.string x)) ?_, gr_below _ _⟩
  rw [hex_ext ⟨n / 16, by omega⟩, hex_ext ⟨n % 16, by omega⟩]
  rfl
theorem ext_one (s : ByteArray) {i : Nat} (h : i < s.size) : (s.extract i (i + 1)).data.toList = [s[i]] := by
  have h1 : i < s.data.toList.length := by simpa using h
  have : (s.extract i (i + 1)).data.toList = (s.data.toList.drop i).take 1 := by simp [Nat.add_sub_cancel_left]
  rw [this, List.drop_eq_getElem_cons h1]
  rfl
theorem emp_iff (s : ByteArray) : s.toList.isEmpty = decide (s.size = 0) := by
  rw [ByteArray.toList_eq]
  have h : s.data.toList.length = s.size := by simp
  cases hl : s.data.toList with
  | nil =>
    have h0 : s.size = 0 := by rw [← h, hl]; rfl
    rw [h0]; rfl
  | cons a r =>
    have h0 : s.size ≠ 0 := by rw [← h, hl]; simp
    rw [decide_eq_false h0]; rfl
theorem keep_let (n : Nat) : Anc.keep n ↔ (letB n = true ∨ n = 45 ∨ n = 95 ∨ n = 46 ∨ 127 < n) := by
  unfold Anc.keep letB
  simp
  omega

set_option maxRecDepth 10000 in
set_option maxHeartbeats 4000000 in
theorem anchorR_any (s : ByteArray) (w : World) (hs : s.size ≤ 10000000000000) :
    Calls Tryd.prog 10 #[.string s] w fun e w' => e = .returned (.string ⟨(Anc.anchor s.data.toList).toArray⟩) ∧ Below w.heap.size w w' := by
  by_cases h0 : s.size = 0
  · have e0 : s.toList.isEmpty = true := by rw [emp_iff]; simpa using h0
    have h1 : Anc.anchor s.data.toList = [95] := by simp [Anc.anchor, show s.data.toList = [] from List.eq_nil_of_length_eq_zero (by simpa using h0)]
    rw [h1]
    clear h1
    go_enter Tryd.func10, Tryd.ntmps10
    go_wp2_with fail
    go_ret
    exact ⟨rfl, Below.refl _ _⟩
  · have e0 : s.toList.isEmpty = false := by rw [emp_iff]; simpa using h0
    have h1 : Anc.anchor s.data.toList = Anc.bytes s.data.toList := by
      have : s.data.toList ≠ [] := fun h => h0 (by have := congrArg List.length h; simpa using this)
      simp [Anc.anchor, this]
    rw [h1]
    clear h1
    go_enter Tryd.func10, Tryd.ntmps10
    go_wp2_with fail
    go_loopg [3, 4, 5] (s.size + 1) (fun g s3 s4 s5 wr => ∃ (i : Nat) (T : ByteArray), i ≤ s.size ∧ s.size - i < g ∧ s4 = .int .i64 i ∧ s3 = .string T ∧ T.data.toList = Anc.bytes (s.data.toList.take i) ∧ Below w.heap.size w wr)
    case atStart => exact ⟨0, ⟨#[]⟩, Nat.zero_le _, by omega, rfl, rfl, rfl, Below.refl _ _⟩
    case round =>
      obtain ⟨i, T, hi, hg, rfl, rfl, hT, hb⟩ := hrel
      have HT := Lib.hid hT
      have hts : T.size ≤ 30000000000000 := by
        have h1 := (Anc.bytes_len (s.data.toList.take i)).2
        have h2 : (s.data.toList.take i).length ≤ i := List.length_take_le _ _
        have h3 : T.data.toList.length = T.size := by simp
        rw [← hT] at h1
        omega
      clear hT
      by_cases hlt : i < s.size
      · have hn := anc_next s hlt
        have hc := s[i].toNat_lt
        have HE := Lib.hid (ext_one s hlt)
        by_cases h32 : s[i].toNat = 32
        · rw [Anc.byte_blank h32] at hn
          have e1 : ((s[i].toNat : Int) == 32) = true := by simp; omega
          have HN := Lib.hid hn
          clear hn h32 hc
          go_wp2_with fail
          go_roundg (s.size - (i + 1) + 1)
          case measure => omega
          case rel => exact ⟨i + 1, _, by omega, by omega, by go_num, rfl, by rw [HN.out, ← HT.out]; simp, hb⟩
        · have e1 : ((s[i].toNat : Int) == 32) = false := by simp; omega
          have hL := fun w => letter_any s[i].toNat hc w
          by_cases hk : Anc.keep s[i].toNat
          · rw [Anc.byte_keep h32 hk] at hn
            have HN := Lib.hid hn
            rw [keep_let] at hk
            generalize letB s[i].toNat = b at *
            have HL := Lib.hid hL
            clear hn hL h32
            rcases b with _ | _
            · simp only [Bool.false_eq_true, false_or] at hk
              obtain ⟨b1, q1⟩ : ∃ b, ((s[i].toNat : Int) == 45) = b := ⟨_, rfl⟩
              obtain ⟨b2, q2⟩ : ∃ b, ((s[i].toNat : Int) == 95) = b := ⟨_, rfl⟩
              obtain ⟨b3, q3⟩ : ∃ b, ((s[i].toNat : Int) == 46) = b := ⟨_, rfl⟩
              have q4 : (b1 || (b2 || (b3 || decide (127 < s[i].toNat)))) = true := by rw [← q1, ← q2, ← q3]; simp; omega
              rcases b1 with _ | _ <;> rcases b2 with _ | _ <;> rcases b3 with _ | _ <;> simp at q4
              all_goals
                go_wp2_with fail
                refine (HL.out _).mono ?_
                rintro e w1 ⟨rfl, rfl⟩
                go_wp2_with fail
                go_roundg (s.size - (i + 1) + 1)
                case measure => omega
                case rel => exact ⟨i + 1, _, by omega, by omega, by go_num, rfl, by rw [HN.out, ← HT.out, ← HE.out]; simp, hb⟩
            · clear hk
              go_wp2_with fail
              refine (HL.out _).mono ?_
              rintro e w1 ⟨rfl, rfl⟩
              go_wp2_with fail
              go_roundg (s.size - (i + 1) + 1)
              case measure => omega
              case rel => exact ⟨i + 1, _, by omega, by omega, by go_num, rfl, by rw [HN.out, ← HT.out, ← HE.out]; simp, hb⟩
          · rw [Anc.byte_hex h32 hk] at hn
            have HN := Lib.hid hn
            have hH := fun w => hex_any s[i].toNat hc w
            rw [keep_let] at hk
            simp only [not_or, Bool.not_eq_true] at hk
            obtain ⟨l0, l1, l2, l3, l4⟩ := hk
            rw [l0] at hL
            have q1 : ((s[i].toNat : Int) == 45) = false := by simp; omega
            have q2 : ((s[i].toNat : Int) == 95) = false := by simp; omega
            have q3 : ((s[i].toNat : Int) == 46) = false := by simp; omega
            have q4 : decide ((127 : Int) < s[i].toNat) = false := by simp; omega
            have HL := Lib.hid hL
            have HH := Lib.hid hH
            clear hn hL hH h32 l0
            go_wp2_with fail
            refine (HL.out _).mono ?_
            rintro e w1 ⟨rfl, rfl⟩
            go_wp2_with fail
            refine (HH.out _).mono ?_
            rintro e w1 ⟨rfl, hb1⟩
            go_wp2_with fail
            go_roundg (s.size - (i + 1) + 1)
            case measure => omega
            case rel => exact ⟨i + 1, _, by omega, by omega, by go_num, rfl, by rw [HN.out, ← HT.out]; simp, hb.trans (hb1.mono hb.size)⟩
      · have ht : s.data.toList.take i = s.data.toList := List.take_of_length_le (by simp; omega)
        have HX := Lib.hid ht
        clear ht
        go_wp2_with fail
        go_ret
        exact ⟨congrArg (fun x => Ending.returned (.string x)) (ByteArray.ext (Array.toList_inj.1 (by rw [HT.out, HX.out]))), hb⟩
end Go.Proofs.YtibmemaciahofaaDoor
