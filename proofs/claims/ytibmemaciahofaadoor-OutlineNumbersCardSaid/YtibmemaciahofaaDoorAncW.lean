/-
  The program's Anchor. Conditions: those typed in each theorem (the text takes less than 2^44 bytes).
-/
import Derived.Test.YtibmemaciahofaaDoorBufMore
import Derived.Test.YtibmemaciahofaaDoorAnc
import Derived.Deep.RegionWith
namespace Go.Proofs.YtibmemaciahofaaDoor
open Go.RowKit
set_option linter.unusedVariables false

theorem take_next (s : ByteArray) {i : Nat} (h : i < s.size) : s.data.toList.take (i + 1) = s.data.toList.take i ++ [s[i]] := by
  rw [List.take_succ_eq_append_getElem (by simpa using h)]; rfl
theorem anc_next (s : ByteArray) {i : Nat} (h : i < s.size) : Anc.bytes (s.data.toList.take (i + 1)) = Anc.bytes (s.data.toList.take i) ++ Anc.byte s[i] := by
  rw [take_next s h, Anc.bytes_app]; simp only [Anc.bytes, List.append_nil]

theorem and15 (n : Nat) (h : n < 256) : bits BinOp.and IntKind.u8 (n : Int) 15 = (n : Int) % 16 := by
  have h1 : (List.range 256).all (fun n => bits BinOp.and IntKind.u8 (n : Int) 15 == (n : Int) % 16) = true := by decide +kernel
  have h2 := List.all_eq_true.1 h1 n (by simpa using h)
  simpa using h2
theorem hex_key : ∀ m : Fin 16, (({ data := #[48, 49, 50, 51, 52, 53, 54, 55, 56, 57, 65, 66, 67, 68, 69, 70] } : ByteArray)[m.val]'(by have := m.isLt; show _ < 16; exact this)).toNat = (Anc.hexd m.val).toNat := by decide
theorem hex_div (c : Nat) (hc : c < 256) (h : ((c : Int) / 16).toNat < ({ data := #[48, 49, 50, 51, 52, 53, 54, 55, 56, 57, 65, 66, 67, 68, 69, 70] } : ByteArray).size) : (({ data := #[48, 49, 50, 51, 52, 53, 54, 55, 56, 57, 65, 66, 67, 68, 69, 70] } : ByteArray)[((c : Int) / 16).toNat]'h).toNat = (Anc.hexd (c / 16)).toNat := by
  have e : ((c : Int) / 16).toNat = c / 16 := by omega
  simp only [e]
  exact hex_key ⟨c / 16, by omega⟩
theorem hex_mod (c : Nat) (h : ((c : Int) % 16).toNat < ({ data := #[48, 49, 50, 51, 52, 53, 54, 55, 56, 57, 65, 66, 67, 68, 69, 70] } : ByteArray).size) : (({ data := #[48, 49, 50, 51, 52, 53, 54, 55, 56, 57, 65, 66, 67, 68, 69, 70] } : ByteArray)[((c : Int) % 16).toNat]'h).toNat = (Anc.hexd (c % 16)).toNat := by
  have e : ((c : Int) % 16).toNat = c % 16 := by omega
  simp only [e]
  exact hex_key ⟨c % 16, by omega⟩
theorem buf_hex (b g : Nat) (l : List UInt8) (c : Nat) (hc : c < 256) (w : World) (h : Buf b l w) (hlen : l.length + 3 ≤ 140737488355328) (hg : g ≠ b) (h1 : ((c : Int) / 16).toNat < ({ data := #[48, 49, 50, 51, 52, 53, 54, 55, 56, 57, 65, 66, 67, 68, 69, 70] } : ByteArray).size) (h2 : ((c : Int) % 16).toNat < ({ data := #[48, 49, 50, 51, 52, 53, 54, 55, 56, 57, 65, 66, 67, 68, 69, 70] } : ByteArray).size)
    (K : Known w g 5 #[.int .u8 46, .int .u8 (({ data := #[48, 49, 50, 51, 52, 53, 54, 55, 56, 57, 65, 66, 67, 68, 69, 70] } : ByteArray)[((c : Int) / 16).toNat]'h1).toNat, .int .u8 (({ data := #[48, 49, 50, 51, 52, 53, 54, 55, 56, 57, 65, 66, 67, 68, 69, 70] } : ByteArray)[((c : Int) % 16).toNat]'h2).toNat]) :
    Calls Tryd.prog 28 #[.pointer (some ⟨b, 0, none⟩), .slice (some ⟨g, 0, none⟩) 3 3] w fun e w' => e = .returned (.tuple #[.int .i64 3, .nilIface]) ∧ Buf b (l ++ [46, Anc.hexd (c / 16), Anc.hexd (c % 16)]) w' ∧ Rest b w w' := by
  rw [hex_div c hc h1, hex_mod c h2] at K
  exact buf_write b g l [46, Anc.hexd (c / 16), Anc.hexd (c % 16)] w h hlen hg K
set_option maxRecDepth 10000 in
set_option maxHeartbeats 4000000 in
theorem anchor_any (s : ByteArray) (w : World) (hs : s.size ≤ 10000000000000) :
    Calls Tryd.prog 9 #[.string s] w fun e w' => e = .returned (.string ⟨(Anc.anchor s.data.toList).toArray⟩) ∧ Below w.heap.size w w' := by
  go_enter Tryd.func9, Tryd.ntmps9
  go_wp2_with fail
  go_loopg [4, 5, 8] (s.size + 1) (fun g s4 s5 s8 wr => ∃ i : Nat, i ≤ s.size ∧ s.size - i < g ∧ s8 = .int .i64 i ∧ Buf w.heap.size (Anc.bytes (s.data.toList.take i)) wr ∧ Below w.heap.size w wr)
  case atStart => exact ⟨0, Nat.zero_le _, by omega, rfl, buf_new w, below_new0 _ _⟩
  case round =>
    obtain ⟨i, hi, hg, rfl, hB, hb⟩ := hrel
    by_cases hlt : i < s.size
    · have hn := anc_next s hlt
      have hlen : (Anc.bytes (s.data.toList.take i)).length ≤ 30000000000000 := by
        have h1 := (Anc.bytes_len (s.data.toList.take i)).2
        have h2 : (s.data.toList.take i).length ≤ i := List.length_take_le _ _
        omega
      have hc := s[i].toNat_lt
      have hbl := hb.size
      have hBl := hB.lt
      have HI := Lib.hid hi
      by_cases h32 : s[i].toNat = 32
      · rw [Anc.byte_blank h32] at hn
        have e1 : ((s[i].toNat : Int) == 32) = true := by simp; omega
        have hC := buf_byte _ _ 95 wr hB (by omega)
        rw [show ((95 : UInt8).toNat : Int) = 95 from rfl] at hC
        have HC := Lib.hid hC
        have HN := Lib.hid hn
        clear hn h32 hC hB
        go_wp2_with fail
        refine HC.out.mono ?_
        rintro e w1 ⟨rfl, hB1, hr1⟩
        have HB1 := Lib.hid hB1
        clear hB1
        go_wp2_with fail
        go_roundg (s.size - (i + 1) + 1)
        case measure => omega
        case rel => exact ⟨i + 1, by omega, by omega, by go_num, by rw [HN.out]; exact HB1.out, hb.trans hr1.1⟩
      · have e1 : ((s[i].toNat : Int) == 32) = false := by simp; omega
        by_cases hk : Anc.keep s[i].toNat
        · rw [Anc.byte_keep h32 hk] at hn
          have hC := buf_byte _ _ s[i] wr hB (by omega)
          have HC := Lib.hid hC
          have HN := Lib.hid hn
          unfold Anc.keep at hk
          clear hn h32 hC hB
          go_wp2_with fail
          all_goals
            refine HC.out.mono ?_
            rintro e w1 ⟨rfl, hB1, hr1⟩
            have HB1 := Lib.hid hB1
            clear hB1
            go_wp2_with fail
            go_roundg (s.size - (i + 1) + 1)
            case measure => omega
            case rel => exact ⟨i + 1, by omega, by omega, by go_num, by rw [HN.out]; exact HB1.out, hb.trans hr1.1⟩
        · rw [Anc.byte_hex h32 hk] at hn
          have HN := Lib.hid hn
          have HB := Lib.hid hB
          unfold Anc.keep at hk
          have h15 := and15 s[i].toNat hc
          have h15a : (0 : Int) ≤ (s[i].toNat : Int) % 16 := by omega
          have h16a : (0 : Int) ≤ (s[i].toNat : Int) / 16 := by omega
          have h16b : (s[i].toNat : Int) / 16 < 16 := by omega
          have h15b : (s[i].toNat : Int) % 16 < 16 := by omega
          clear hn h32 hB
          have hW := fun (W : World) (hb : Below wr.heap.size wr W) (h1 : ((s[i].toNat : Int) / 16).toNat < ({ data := #[48, 49, 50, 51, 52, 53, 54, 55, 56, 57, 65, 66, 67, 68, 69, 70] } : ByteArray).size) (h2 : ((s[i].toNat : Int) % 16).toNat < ({ data := #[48, 49, 50, 51, 52, 53, 54, 55, 56, 57, 65, 66, 67, 68, 69, 70] } : ByteArray).size) => buf_hex w.heap.size wr.heap.size _ s[i].toNat hc W (HB.out.on hb) (by omega) (by omega) h1 h2
          have HW := Lib.hid hW
          clear hW
          go_wp2_with fail
          all_goals
            go_region_with ((go_at_call 28; go_must (refine (HW.out _ (below_new0 _ _).drew _ _ ((Known.made wr _ _).on (Below.refl _ _).drew)).mono ?_); rintro e w1 ⟨rfl, hB1, hr1⟩))
            all_goals
              have HB1 := Lib.hid hB1
              have hbb := (hb.trans ((below_new0 wr _).drew.mono hbl)).trans hr1.1
              clear hB1
              go_wp2_with fail
              go_roundg (s.size - (i + 1) + 1)
              case measure => omega
              case rel => exact ⟨i + 1, by omega, by omega, by go_num, by rw [HN.out]; exact HB1.out, hbb⟩
    · have ht : s.data.toList.take i = s.data.toList := List.take_of_length_le (by simp; omega)
      rw [ht] at hB
      have hC := buf_len _ _ wr hB
      have hT := buf_text _ _ wr hB
      have HE : Hid (s.data.toList = [] → Anc.anchor s.data.toList = [95]) := Lib.hid fun h => by simp [Anc.anchor, h]
      have HF : Hid (s.data.toList ≠ [] → Anc.anchor s.data.toList = Anc.bytes s.data.toList) := Lib.hid fun h => by simp [Anc.anchor, h]
      have hL := (Anc.bytes_len s.data.toList)
      have hL2 : s.data.toList.length = s.size := by simp
      rw [hL2] at hL
      obtain ⟨m, hm⟩ : ∃ m, m = (Anc.bytes s.data.toList).length := ⟨_, rfl⟩
      rw [← hm] at hC hL
      have HM := Lib.hid hm
      have HC := Lib.hid hC
      have HT := Lib.hid hT
      have H2 := Lib.hid hL2
      by_cases h0 : s.size = 0
      · have e0 : ((m : Int) == 0) = true := by simp; omega
        clear hm hC hT hB ht hL2
        go_wp2_with fail
        refine HC.out.mono ?_
        rintro e w1 ⟨rfl, rfl⟩
        go_wp2_with fail
        go_ret
        have h1 := HE.out (List.eq_nil_of_length_eq_zero (by rw [H2.out]; exact h0))
        rw [h1]
        exact ⟨rfl, hb⟩
      · have e0 : ((m : Int) == 0) = false := by simp; omega
        clear hm hC hT hB ht hL2
        go_wp2_with fail
        refine HC.out.mono ?_
        rintro e w1 ⟨rfl, rfl⟩
        go_wp2_with fail
        refine HT.out.mono ?_
        rintro e w1 ⟨rfl, hB1, hr1⟩
        clear hB1
        go_wp2_with fail
        go_ret
        have h1 := HF.out (fun h => by have := H2.out; rw [h] at this; simp at this; omega)
        rw [h1]
        exact ⟨rfl, hb.trans hr1.1⟩
end Go.Proofs.YtibmemaciahofaaDoor
