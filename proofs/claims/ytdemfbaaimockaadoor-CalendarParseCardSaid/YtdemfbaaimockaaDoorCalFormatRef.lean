/-
  Format and Unit of the reference: the text of a pattern, its unit. Conditions: those typed in each theorem.
-/
import Derived.Test.YtdemfbaaimockaaDoorCalCodeRef
import Derived.Test.YtdemfbaaimockaaDoorCalFormat
import Derived.Test.YtdemfbaaimockaaDoorCalUnit
import Derived.Test.YtdemfbaaimockaaDoorCalBytes
namespace Go.Proofs.YtdemfbaaimockaaDoor
open Go.RowKit

theorem formatRef_no (s : ByteArray) (n : Int) (w : World) (hn : instB n = false) :
    Calls Tryd.prog 21 #[.string s, .int .i64 n] w fun e w' => e = .returned (.tuple #[.string ⟨#[]⟩, .int .i64 2]) ∧ Below w.heap.size w w' := by
  go_enter Tryd.func21, Tryd.ntmps21
  go_wp2_with (go_at_call 36; refine (instant_ref _ _).mono ?_; rintro e w' ⟨rfl, rfl⟩)
  go_ret2
  exact ⟨rfl, Below.refl _ _⟩
theorem formatRef_long (s : ByteArray) (n : Int) (w : World) (hs : s.size ≤ 1000000) (hl : 400 < s.size) (hn : instB n = true) :
    Calls Tryd.prog 21 #[.string s, .int .i64 n] w fun e w' => e = .returned (.tuple #[.string ⟨#[]⟩, .int .i64 3]) ∧ Below w.heap.size w w' := by
  go_enter Tryd.func21, Tryd.ntmps21
  go_wp2_with (go_at_call 36; refine (instant_ref _ _).mono ?_; rintro e w' ⟨rfl, rfl⟩)
  go_ret2
  exact ⟨rfl, Below.refl _ _⟩
theorem fmt_one (n : Int) (done : List (UInt8 × Bool)) (c : UInt8) : Cal.fmt n (done ++ [(c, false)]) = Cal.fmt n done ++ [c] := by rw [Cal.fmt_snoc]; rfl
theorem fmt_code (n : Int) (done : List (UInt8 × Bool)) (c : UInt8) (h : Cal.isCode c = true) : Cal.fmt n (done ++ [(c, Cal.isCode c)]) = Cal.fmt n done ++ Cal.val c n := by rw [Cal.fmt_snoc, h]; rfl
theorem byte_cut (s : ByteArray) (k : Nat) (h : k < s.size) : s.extract k (k + 1) = ⟨#[s[k]]⟩ := by
  apply ByteArray.ext
  apply Array.ext'
  simp only [ByteArray.data_extract]
  rw [Array.toList_extract, List.extract_eq_take_drop]
  rw [drop_one s k h]
  simp
theorem str_snoc (l : List UInt8) (c : UInt8) : (ByteArray.mk l.toArray) ++ ⟨#[c]⟩ = ⟨(l ++ [c]).toArray⟩ := ByteArray.mk_append_mk l [c]

set_option maxHeartbeats 2000000 in
theorem formatRef_yes (s : ByteArray) (n : Int) (w : World) (hl : s.size ≤ 400) (hn : instB n = true) :
    Calls Tryd.prog 21 #[.string s, .int .i64 n] w fun e w' => e = .returned (.tuple #[.string ⟨(Cal.fmt n (Cal.evs s.data.toList)).toArray⟩, .int .i64 0]) ∧ Below w.heap.size w w' := by
  obtain ⟨n1, n2⟩ := instB_iff.1 hn
  go_enter Tryd.func21, Tryd.ntmps21
  go_wp2_with (go_at_call 36; refine (instant_ref _ _).mono ?_; rintro e w' ⟨rfl, rfl⟩)
  go_loopg [6, 7] (s.size + 1) (fun g t i wr => ∃ (k : Nat) (done : List (UInt8 × Bool)), k ≤ s.size ∧ s.size - k < g ∧ i = .int .i64 k ∧ done.length ≤ k ∧ Cal.evs s.data.toList = done ++ Cal.evs (s.data.toList.drop k) ∧ t = .string ⟨(Cal.fmt n done).toArray⟩ ∧ Below w.heap.size w wr)
  case atStart => exact ⟨0, [], by omega, by omega, rfl, by simp, by simp, rfl, Below.refl _ _⟩
  case round =>
    obtain ⟨k, done, hk, hg, rfl, hdl, hev, rfl, hbel⟩ := hrel
    have HE := Lib.hid hev
    clear hev
    have hfl := Cal.fmt_len n n1 n2 done
    by_cases hlt : k < s.size
    · have hcut := Lib.hid (byte_cut s k hlt)
      go_wp2_with fail
      · have hc : (s[k].toNat : Int) = 92 := by assumption
        have hk1 : k + 1 < s.size := by omega
        go_roundg (s.size - (k + 2) + 1)
        case measure => omega
        case rel => exact ⟨k + 2, _, by omega, by omega, by go_num, by simp; omega, ev_back hk1 hc HE.out, by rw [byte_cut s (k + 1) hk1, str_snoc, fmt_one], hbel⟩
      · have hc : (s[k].toNat : Int) = 92 := by assumption
        have hk1 : s.size ≤ k + 1 := by omega
        have e : s[k] = 92 := byte92 hc
        have HE2 := Lib.hid (ev_plain hlt (.inr hk1) HE.out)
        rw [e] at HE2 hcut
        refine (code_no 92 n _ (by decide) hn).mono ?_
        rintro e w2 ⟨rfl, hb2⟩
        go_wp2_with fail
        go_roundg (s.size - (k + 1) + 1)
        case measure => omega
        case rel => exact ⟨k + 1, _, by omega, by omega, by go_num, by simp; omega, HE2.out, by rw [hcut.out, str_snoc, ← fmt_one]; rfl, hbel.then_ hb2⟩
      · have hc : ¬ (s[k].toNat : Int) = 92 := by assumption
        have HE2 := Lib.hid (ev_plain hlt (.inl hc) HE.out)
        cases hcd : Cal.isCode s[k]
        · have hcd' := Lib.hid hcd
          refine (code_no s[k] n _ hcd hn).mono ?_
          clear hcd
          rintro e w2 ⟨rfl, hb2⟩
          go_wp2_with fail
          go_roundg (s.size - (k + 1) + 1)
          case measure => omega
          case rel => exact ⟨k + 1, _, by omega, by omega, by go_num, by simp; omega, HE2.out, by rw [hcut.out, str_snoc, hcd'.out, fmt_one], hbel.then_ hb2⟩
        · have hcd' := Lib.hid hcd
          have hv := Cal.val_len s[k] n n1 n2
          refine (code_yes s[k] n _ hcd hn).mono ?_
          clear hcd
          rintro e w2 ⟨rfl, hb2⟩
          go_wp2_with fail
          go_roundg (s.size - (k + 1) + 1)
          case measure => omega
          case rel => exact ⟨k + 1, _, by omega, by omega, by go_num, by simp; omega, HE2.out, by rw [fmt_code n done _ hcd'.out, ByteArray.mk_append_mk], hbel.then_ hb2⟩
    · go_wp2_with fail
      go_ret2
      refine ⟨?_, hbel⟩
      rw [HE.out, drop_all s k (by omega)]
      simp [Cal.evs]

theorem unit_no (u : Int) (c : UInt8) (hc : Cal.isCode c = false) : Cal.unitStep u (c, Cal.isCode c) = u := by rw [hc]; rfl

set_option maxHeartbeats 4000000 in
theorem unitRef_any (s : ByteArray) (w : World) (hs : s.size ≤ 1000000) :
    Calls Tryd.prog 23 #[.string s] w fun e w' => e = .returned (.int .i64 (Cal.unit (Cal.evs s.data.toList))) ∧ Below w.heap.size w w' := by
  go_enter Tryd.func23, Tryd.ntmps23
  go_wp2_with fail
  go_loopg [3, 4] (s.size + 2) (fun g t i wr => ∃ (k : Nat) (done : List (UInt8 × Bool)), k ≤ s.size + 1 ∧ s.size + 1 - k < g ∧ i = .int .i64 k ∧ Cal.evs s.data.toList = done ++ Cal.evs (s.data.toList.drop k) ∧ t = .int .i64 (Cal.unit done) ∧ w = wr)
  case atStart => exact ⟨0, [], by omega, by omega, rfl, by simp, rfl, rfl⟩
  case round =>
    obtain ⟨k, done, hk, hg, rfl, hev, rfl, rfl⟩ := hrel
    have HE := Lib.hid hev
    clear hev
    have hu := unit_le done
    by_cases hlt : k < s.size
    · by_cases hc : (s[k].toNat : Int) = 92
      · have hcb : ((s[k].toNat : Int) == 92) = true := by simpa using hc
        have e : s[k] = 92 := byte92 hc
        go_wp2_with fail
        by_cases hk1 : k + 1 < s.size
        · go_roundg (s.size + 1 - (k + 2) + 1)
          case measure => omega
          case rel => exact ⟨k + 2, _, by omega, by omega, by go_num, ev_back hk1 hc HE.out, by rw [Cal.unit_snoc]; rfl, rfl⟩
        · have HE2 := ev_plain hlt (.inr (by omega)) HE.out
          rw [e] at HE2
          go_roundg (s.size + 1 - (k + 2) + 1)
          case measure => omega
          case rel => exact ⟨k + 2, _, by omega, by omega, by go_num, by rw [HE2, drop_all s (k + 1) (by omega), drop_all s (k + 2) (by omega)], by rw [Cal.unit_snoc]; rfl, rfl⟩
      · have HE2 := Lib.hid (ev_plain hlt (.inl hc) HE.out)
        cases hcd : Cal.isCode s[k]
        · have hx := Cal.isCode_not hcd
          have x1 : ((s[k].toNat : Int) == 109) = false := Cal.byte_ne (hx 109 (by decide))
          have x2 : ((s[k].toNat : Int) == 110) = false := Cal.byte_ne (hx 110 (by decide))
          have x3 : ((s[k].toNat : Int) == 70) = false := Cal.byte_ne (hx 70 (by decide))
          have x4 : ((s[k].toNat : Int) == 77) = false := Cal.byte_ne (hx 77 (by decide))
          have x5 : ((s[k].toNat : Int) == 100) = false := Cal.byte_ne (hx 100 (by decide))
          have x6 : ((s[k].toNat : Int) == 106) = false := Cal.byte_ne (hx 106 (by decide))
          have x7 : ((s[k].toNat : Int) == 122) = false := Cal.byte_ne (hx 122 (by decide))
          have x8 : ((s[k].toNat : Int) == 78) = false := Cal.byte_ne (hx 78 (by decide))
          have x9 : ((s[k].toNat : Int) == 108) = false := Cal.byte_ne (hx 108 (by decide))
          have x10 : ((s[k].toNat : Int) == 68) = false := Cal.byte_ne (hx 68 (by decide))
          have x11 : ((s[k].toNat : Int) == 72) = false := Cal.byte_ne (hx 72 (by decide))
          have x12 : ((s[k].toNat : Int) == 71) = false := Cal.byte_ne (hx 71 (by decide))
          have x13 : ((s[k].toNat : Int) == 105) = false := Cal.byte_ne (hx 105 (by decide))
          have hcb : ((s[k].toNat : Int) == 92) = false := by simpa using hc
          have hcd' := Lib.hid hcd
          clear hx hcd
          go_wp2_with fail
          go_roundg (s.size + 1 - (k + 1) + 1)
          case measure => omega
          case rel => exact ⟨k + 1, _, by omega, by omega, by go_num, HE2.out, by rw [Cal.unit_snoc, unit_no _ _ hcd'.out], rfl⟩
        · have hcd' := Lib.hid hcd
          obtain ⟨c, hcc⟩ : ∃ c, s[k] = c := ⟨_, rfl⟩
          have hnum : (s[k].toNat : Int) = (c.toNat : Int) := by rw [hcc]
          rw [hcc] at hcd HE2
          have hcc' := Lib.hid hcc
          clear hcc hc hcd'
          rcases Cal.isCode_cases hcd with rfl | rfl | rfl | rfl | rfl | rfl | rfl | rfl | rfl | rfl | rfl | rfl | rfl | rfl
          all_goals
            clear hcd
            go_wp2_with fail
            go_roundg (s.size + 1 - (k + 1) + 1)
            case measure => omega
            case rel => exact ⟨k + 1, _, by omega, by omega, by go_num, HE2.out, (by rw [Cal.unit_snoc]; simp [Cal.unitStep, Cal.unitOf, Cal.isCode, Cal.codeL]; try omega), rfl⟩
    · go_wp2_with fail
      go_ret
      refine ⟨ret_int ?_, Below.refl _ _⟩
      rw [HE.out, drop_all s k (by omega)]
      simp [Cal.evs]
end Go.Proofs.YtdemfbaaimockaaDoor
