/-
  Free anchors: the reference's function. Conditions: those typed in each theorem.
-/
import Derived.Test.YtibmemaciahofaaDoorContNum
namespace Go.Proofs.YtibmemaciahofaaDoor
open Go.RowKit Doc Cont
set_option linter.unusedVariables false

theorem cand_next (a : ByteArray) (m : Nat) (hm : 1 ≤ m) (T : ByteArray) (hT : T = ⟨(Lib.decDigits (m + 1)).toArray⟩) : (a ++ ⟨#[95]⟩ ++ T).data.toList = cand a.data.toList (m + 1) := by
  subst hT
  unfold cand
  rw [if_neg (by omega)]
  simp
theorem cand_size {X : ByteArray} {a : List UInt8} {m : Nat} (h : X.data.toList = cand a m) (hm : m ≤ 2000000) : X.size ≤ a.length + 8 := by
  have h1 : X.data.toList.length = X.size := by simp
  rw [← h1, h]
  unfold cand
  split
  · omega
  · have := dec_len 6 m (by omega)
    simp only [List.length_append, List.length_cons, List.length_nil]
    omega

set_option maxRecDepth 10000 in
set_option maxHeartbeats 2000000 in
theorem free_any (p : Option Addr) (L : List Ent) (a : ByteArray) (c : Nat) (w : World) (hL : Ents w p L) (hc : L.length ≤ 1000000) (ha : a.size ≤ 1000000000) :
    Calls Tryd.prog 42 #[.slice p L.length c, .string a] w fun e w' => e = .returned (.string ⟨(ancB L a.data.toList).toArray⟩) ∧ Below w.heap.size w w' := by
  have hT := fun (s : ByteArray) (W : World) (hW : Below w.heap.size w W) => taken_any p L s c W (hL.below hW) hc
  obtain ⟨n, hn⟩ : ∃ n, n = L.length := ⟨_, rfl⟩
  rw [← hn] at hc hT ⊢
  have HN := Lib.hid hn
  have HT := Lib.hid hT
  have HL := Lib.hid hL
  clear hn hT hL
  go_enter Tryd.func42, Tryd.ntmps42
  go_wp2_with fail
  go_loopg [5, 6] (n + 2) (fun g s5 s6 wr => ∃ (m : Nat) (X : ByteArray), 1 ≤ m ∧ m ≤ n + 1 ∧ n + 2 - m ≤ g ∧ s6 = .int .i64 ((m + 1 : Nat) : Int) ∧ s5 = .string X ∧ X.data.toList = cand a.data.toList m ∧ (∀ j, 1 ≤ j → j < m → taken L (cand a.data.toList j) = true) ∧ Below w.heap.size w wr)
  case atStart => exact ⟨1, a, Nat.le_refl _, by omega, by omega, rfl, rfl, by simp [cand], fun j h1 h2 => by omega, Below.refl _ _⟩
  case round =>
    obtain ⟨m, X, hm1, hm2, hg, rfl, rfl, hX, hj, hbr⟩ := hrel
    have hC := HT.out X wr hbr
    have hXs := cand_size hX (by omega)
    rw [hX] at hC
    have HX := Lib.hid hX
    have HJ := Lib.hid hj
    have hbw := hbr.size
    clear hX hj
    by_cases ht : taken L (cand a.data.toList m) = true
    · rw [ht] at hC
      have hle : m ≤ n := by
        have := taken_le L a.data.toList m (fun j h1 h2 => by
          by_cases e : j = m
          · rw [e]; exact ht
          · exact HJ.out j h1 (by omega))
        rw [HN.out]; exact this
      have HTT := Lib.hid ht
      have hD := fun W => dec_any (m + 1) W (by omega)
      have hds := dec_size (m + 1) (by omega)
      have HC := Lib.hid (cand_next a m hm1)
      obtain ⟨DD, hDD⟩ : ∃ DD : ByteArray, DD = ⟨(Lib.decDigits (m + 1)).toArray⟩ := ⟨_, rfl⟩
      rw [← hDD] at hds hD
      have HDD := Lib.hid hDD
      have e1 : (((m + 1 : Nat) : Int) = (m : Int) + 1) := by omega
      rw [e1] at hD ⊢
      have hC2 := hC
      have HH := Lib.hid hC
      have HD := Lib.hid hD
      clear hC hDD ht hD hC2 e1
      go_wp2_with fail
      refine HH.out.mono ?_
      rintro e w1 ⟨rfl, rfl⟩
      go_wp2_with fail
      refine (HD.out _).mono ?_
      rintro e w2 ⟨rfl, hb2⟩
      go_wp2_with fail
      go_roundg (n + 2 - (m + 1))
      case measure => omega
      case rel => exact ⟨m + 1, _, by omega, by omega, by omega, by go_num, rfl, HC.out _ HDD.out, fun j h1 h2 => by
        by_cases e : j = m
        · rw [e]; exact HTT.out
        · exact HJ.out j h1 (by omega), hbr.trans (hb2.mono hbw)⟩
    · have hf : taken L (cand a.data.toList m) = false := by simpa using ht
      rw [hf] at hC
      have HH := Lib.hid hC
      have HF := Lib.hid hf
      clear hC hf ht
      go_wp2_with fail
      refine HH.out.mono ?_
      rintro e w1 ⟨rfl, rfl⟩
      go_wp2_with fail
      go_ret
      exact ⟨congrArg (fun x => Ending.returned (.string x)) (ByteArray.ext (Array.toList_inj.1 (by rw [HX.out, anc_of L a.data.toList m hm1 HJ.out HF.out]))), hbr⟩
end Go.Proofs.YtibmemaciahofaaDoor
