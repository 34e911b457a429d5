/-
  The law InlineEntities: every byte but 0 can be written as an entity. Condition: the library's MaxLen holds a number.
-/
import Derived.Test.YtegcacnmcdkfiaaGreatDoorTw

namespace Go.Proofs.YtegcacnmcdkfiaaGreatDoor
open Go.RowKit Doc Tit Inl
set_option linter.unusedVariables false
attribute [local go_sem ↓] Go.wp_at_zero Go.wp_at_succ

theorem conv_three (w : World) (a b c : UInt8) : (convert 38 9 (.slice (some ⟨w.heap.size, 0, none⟩) 3 3)).run Tryz.prog (w.alloc (.cells #[.int .u8 (a.toNat : Int), .int .u8 (b.toNat : Int), .int .u8 (c.toNat : Int)] 5)) = .ok (.string ⟨#[a, b, c]⟩) (w.alloc (.cells #[.int .u8 (a.toNat : Int), .int .u8 (b.toNat : Int), .int .u8 (c.toNat : Int)] 5)) := by
  have hk := Known.made w 5 #[.int .u8 (a.toNat : Int), .int .u8 (b.toNat : Int), .int .u8 (c.toNat : Int)]
  have hBI : BIn (w.alloc (.cells #[.int .u8 (a.toNat : Int), .int .u8 (b.toNat : Int), .int .u8 (c.toNat : Int)] 5)) w.heap.size [a, b, c] := by
    refine ⟨hk.lt, fun j hj => ?_⟩
    have h3 : j < 3 := by simpa using hj
    have : j = 0 ∨ j = 1 ∨ j = 2 := by omega
    rcases this with rfl | rfl | rfl
    · exact ⟨hk.cell 0, hk.free 0⟩
    · exact ⟨hk.cell 1, hk.free 1⟩
    · exact ⟨hk.cell 2, hk.free 2⟩
  exact conv_from hBI 3 3 rfl
set_option maxRecDepth 10000 in
set_option maxHeartbeats 1000000 in
theorem law_entities (s : ByteArray) (w : World) (hm : MX w) : Calls Tryz.prog 7 #[.string s] w fun e w' => e = .returned (.bool true) ∧ Below w.heap.size w w' := by
  have hz : s.data.toList.length = s.size := by simp
  have HK := Lib.hid (known_then w hm)
  have HM := Lib.hid hm
  clear hm
  by_cases hs : s.size ≤ 100
  case neg =>
    have g0 : decide (100 < (s.size : Int)) = true := by simp; omega
    go_enter Tryz.func7, Tryz.ntmps7
    go_wp2_with fail
    refine (HK.out _ (Below.refl _ _)).mono ?_
    rintro e w6 ⟨rfl, hb6⟩
    go_wp2_with fail
    go_ret
    exact ⟨rfl, hb6⟩
  have g0 : decide (100 < (s.size : Int)) = false := by simp; omega
  have hI := Tryz.strings_IndexByte s 0 w
  have e0 : ((0 : Int).toNat.toUInt8) = 0 := rfl
  rw [e0] at hI
  by_cases hi : 0 ≤ Lib.indexByte s.data.toList 0
  · have g1 : decide (0 ≤ Lib.indexByte s.data.toList 0) = true := decide_eq_true hi
    have HI := Lib.hid hI
    clear hI hz e0
    go_enter Tryz.func7, Tryz.ntmps7
    go_wp2_with fail
    refine HI.out.mono ?_
    rintro e w1 ⟨rfl, hw⟩
    rw [hw]
    go_wp2_with fail
    refine (HK.out _ (Below.refl _ _)).mono ?_
    rintro e w6 ⟨rfl, hb6⟩
    go_wp2_with fail
    go_ret
    exact ⟨rfl, hb6⟩
  · have g1 : decide (0 ≤ Lib.indexByte s.data.toList 0) = false := decide_eq_false hi
    have hno : ∀ c ∈ s.data.toList, c ≠ 0 := fun c hc e => by
      subst e
      obtain ⟨j, hj⟩ := List.mem_iff_getElem?.1 hc
      have := Lib.indexByte_ge s.data.toList 0
      exact Lib.indexByte_none (by omega) j hj
    have HI := Lib.hid hI
    have HNO := Lib.hid hno
    have HZ := Lib.hid hz
    clear hI e0 hi hno hz
    go_enter Tryz.func7, Tryz.ntmps7
    go_wp2_with fail
    refine HI.out.mono ?_
    rintro e w1 ⟨rfl, hw⟩
    rw [hw]
    go_wp2_with fail
    go_loopg [3, 4, 5] (s.size + 1) (fun g s3 s4 _ wr => ∃ A R : List UInt8, A ++ R = s.data.toList ∧ R.length < g ∧ s3 = .string ⟨(ents A).toArray⟩ ∧ s4 = .int .i64 A.length ∧ Below w.heap.size w wr)
    case atStart => exact ⟨[], s.data.toList, rfl, by rw [HZ.out]; omega, rfl, rfl, Below.refl _ _⟩
    case round =>
      obtain ⟨A, R, hAR, hR, rfl, rfl, hb⟩ := hrel
      have hl : A.length + R.length = s.size := by rw [← HZ.out, ← hAR, List.length_append]
      have he : (ents A).length = 6 * A.length := ents_len A
      obtain ⟨E, hE⟩ : ∃ E : ByteArray, E = ⟨(ents A).toArray⟩ := ⟨_, rfl⟩
      have hEs : E.size = 6 * A.length := by rw [hE, ← he]; simp [ByteArray.size]
      rw [← hE]
      obtain ⟨n, hn⟩ : ∃ n, n = A.length := ⟨_, rfl⟩
      rw [← hn] at hl hEs ⊢
      have HAR := Lib.hid hAR
      have HE := Lib.hid hE
      have HN := Lib.hid hn
      have HB := Lib.hid hb
      clear hAR hE hn hb he
      cases R with
      | nil =>
        have g2 : decide (n < s.size) = false := by simp at hl ⊢; omega
        have hA : A = s.data.toList := by have := HAR.out; rwa [List.append_nil] at this
        have hEe : E.data.toList = ents s.data.toList := by rw [HE.out, hA]
        have hrd := read_ents HNO.out
        have hP := fun W hb => pparse17_any E W (by omega) (HM.out.below hb : MX W)
        rw [hEe, hrd] at hP
        have hD := fun W => pdecode_any E W (by omega)
        rw [hEe, dec_ents HNO.out, bytes_mk] at hD
        cases he : s.toList.isEmpty with
        | true =>
          have hs0 : s.data.toList = [] := by rw [← Lib.toList_data]; exact List.isEmpty_iff.1 he
          rw [if_pos hs0] at hP
          simp only [Ins.len] at hP
          have HP := Lib.hid hP
          clear hP hD hs0 hrd hEe hA hl hEs
          go_wp2_with fail
          refine (HP.out _ HB.out).mono ?_
          rintro e w2 ⟨p1, c1, rfl, hs1, hb2⟩
          have HB2 := Lib.hid (below_then HB.out hb2)
          clear hs1 hb2
          go_wp2_with fail
          refine (HK.out _ HB2.out).mono ?_
          rintro e w6 ⟨rfl, hb6⟩
          go_wp2_with fail
          go_ret
          exact ⟨rfl, hb6⟩
        | false =>
          have hne : s.data.toList ≠ [] := fun e => by rw [Lib.toList_data, e] at he; cases he
          rw [if_neg hne, tx_txt, tx_len] at hP
          have hS := same_of (tx s) (by rw [tx_size]; decide)
          simp only [tx_len] at hS
          have HP := Lib.hid hP
          have HD := Lib.hid hD
          have HS := Lib.hid hS
          clear hP hD hS hne hrd hEe hA hl hEs
          go_wp2_with fail
          refine (HP.out _ HB.out).mono ?_
          rintro e w2 ⟨p1, c1, rfl, hs1, hb2⟩
          have HB2 := Lib.hid (below_then HB.out hb2)
          have HS1 := Lib.hid (sl_any hs1)
          clear hs1 hb2
          go_wp2_with fail
          refine (HD.out _).mono ?_
          rintro e w3 ⟨rfl, hb3⟩
          have HB3 := Lib.hid (below_then HB2.out hb3)
          have HS3 := Lib.hid (sl_below HS1.out hb3)
          clear hb3
          go_wp2_with fail
          refine (text_any _ _).mono ?_
          rintro e w4 ⟨rfl, hb4⟩
          have HB4 := Lib.hid (below_then (below_then HB3.out hb4) (below_new0 w4 (.cells #[.int .i64 1, .string s, .int .i64 0, .string ⟨#[]⟩, .string ⟨#[]⟩, .slice none 0 0] 42)))
          have HS4 := Lib.hid (sl_below HS3.out (below_then hb4 (below_new0 w4 (.cells #[.int .i64 1, .string s, .int .i64 0, .string ⟨#[]⟩, .string ⟨#[]⟩, .slice none 0 0] 42))))
          have HT := Lib.hid (tx_sl w4 s)
          clear hb4
          go_wp2_with fail
          refine (HS.out p1 c1 (some ⟨w4.heap.size, 0, none⟩) 1 _ HS4.out HT.out).mono ?_
          rintro e w5 ⟨rfl, hb5⟩
          have HB5 := Lib.hid (below_then HB4.out hb5)
          clear hb5
          go_wp2_with fail
          refine (HK.out _ HB5.out).mono ?_
          rintro e w6 ⟨rfl, hb6⟩
          go_wp2_with fail
          go_ret
          exact ⟨rfl, hb6⟩
      | cons x R =>
        have hin : n < s.size := by simp at hl; omega
        have g2 : decide (n < s.size) = true := decide_eq_true hin
        have hx : s[n]'hin = x := by
          have h1 : s.data.toList[n]? = some (s[n]'hin) := Lib.data_getElem? s n hin
          have h2 : (A ++ x :: R)[n]? = some x := by rw [HN.out, List.getElem?_append_right (Nat.le_refl _), Nat.sub_self]; rfl
          rw [← HAR.out, h2] at h1
          injection h1 with h1
          exact h1.symm
        have hx256 : x.toNat < 256 := x.toNat_lt
        have q0 : ((UInt8.ofNat (48 + x.toNat / 100)).toNat : Int) = 48 + (x.toNat : Int) / 100 := by rw [UInt8.toNat_ofNat']; omega
        have q1 : ((UInt8.ofNat (48 + x.toNat / 10 % 10)).toNat : Int) = 48 + (x.toNat : Int) / 10 % 10 := by rw [UInt8.toNat_ofNat']; omega
        have q2 : ((UInt8.ofNat (48 + x.toNat % 10)).toNat : Int) = 48 + (x.toNat : Int) % 10 := by rw [UInt8.toNat_ofNat']; omega
        have hcv := fun W => conv_three W (UInt8.ofNat (48 + x.toNat / 100)) (UInt8.ofNat (48 + x.toNat / 10 % 10)) (UInt8.ofNat (48 + x.toNat % 10))
        rw [q0, q1, q2] at hcv
        obtain ⟨D, hD⟩ : ∃ D : ByteArray, D = ⟨#[UInt8.ofNat (48 + x.toNat / 100), UInt8.ofNat (48 + x.toNat / 10 % 10), UInt8.ofNat (48 + x.toNat % 10)]⟩ := ⟨_, rfl⟩
        have hDs : D.size = 3 := by rw [hD]; rfl
        rw [← hD] at hcv
        have HD := Lib.hid hD
        have HL := Lib.hid hl
        clear hD q0 q1 q2 hl
        go_wp2_with fail
        go_roundg (R.length + 1)
        case measure => have := hR; simp only [List.length_cons] at this; omega
        case rel =>
          refine ⟨A ++ [x], R, by rw [List.append_assoc]; exact HAR.out, Nat.lt_succ_self _, ?_, ?_, below_then HB.out (below_new0 _ _)⟩
          · congr 1
            refine bytes_ext ?_
            rw [ents_snoc, HE.out, HD.out]
            simp [ent3]
          · rw [List.length_append, List.length_singleton, ← HN.out]
            go_num
end Go.Proofs.YtegcacnmcdkfiaaGreatDoor
