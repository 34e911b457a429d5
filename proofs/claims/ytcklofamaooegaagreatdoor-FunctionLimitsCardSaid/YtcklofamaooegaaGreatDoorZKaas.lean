/-
  The claim's own texts, packed. Conditions: those typed in each theorem.
-/
import Derived.Test.YtcklofamaooegaaGreatDoorZKaae
import Derived.Test.YtcklofamaooegaaGreatDoorShelf
import Derived.Test.YtcklofamaooegaaGreatDoorZKaac
import Derived.Deep.LoopGhost
set_option maxHeartbeats 4000000
set_option maxRecDepth 10000
set_option linter.unusedVariables false
namespace Go.Proofs.YtcklofamaooegaaGreatDoor
open Go.RowKit
theorem indexByte_mem (l : List UInt8) (c : UInt8) : -1 ≤ Lib.indexByte l c ∧ (0 ≤ Lib.indexByte l c ↔ c ∈ l) := by
 induction l with
 | nil => simp [Lib.indexByte]
 | cons b l ih =>
   obtain ⟨h1, h2⟩ := ih
   unfold Lib.indexByte
   by_cases hb : b = c
   ·subst hb; simp
   ·have hb' : ¬ c = b := fun e => hb e.symm
    by_cases h : Lib.indexByte l c = -1
    ·simp [hb, hb', h]; intro hc; have := h2.2 hc; omega
    ·simp [hb, hb', h]; refine ⟨by omega, ?_⟩; rw [← h2]; omega
theorem index_code (c : UInt8) : decide (0 ≤ Lib.indexByte [89, 109, 110, 70, 77, 100, 106, 122, 78, 108, 68, 72, 71, 105] c) = Cal.isCode c := by
 rw [Bool.eq_iff_iff]
 simp only [decide_eq_true_eq, (indexByte_mem _ _).2]
 simp [Cal.isCode, Cal.codeL]
theorem drop_one (s : ByteArray) (k : Nat) (h : k < s.size) : s.data.toList.drop k = s[k] :: s.data.toList.drop (k + 1) := by
 rw [List.drop_eq_getElem_cons (by simpa using h)]; rfl
theorem drop_all (s : ByteArray) (k : Nat) (h : s.size ≤ k) : s.data.toList.drop k = [] := List.drop_eq_nil_of_le (by simpa using h)
theorem byte92 {c : UInt8} (h : (c.toNat : Int) = 92) : c = 92 := by
 apply UInt8.toNat_inj.1
 show c.toNat = 92
 omega
theorem ev_back {s : ByteArray} {k : Nat} (h : k + 1 < s.size) (hc : (s[k].toNat : Int) = 92) {done : List (UInt8 × Bool)} (he : Cal.evs s.data.toList = done ++ Cal.evs (s.data.toList.drop k)) :
  Cal.evs s.data.toList = (done ++ [(s[k + 1], false)]) ++ Cal.evs (s.data.toList.drop (k + 2)) := by
 have e : s[k] = 92 := byte92 hc
 rw [he, drop_one s k (by omega), drop_one s (k + 1) h, e, Cal.evs_back, List.append_assoc]
 rfl
theorem ev_plain {s : ByteArray} {k : Nat} (h : k < s.size) (hc : ¬ (s[k].toNat : Int) = 92 ∨ s.size ≤ k + 1) {done : List (UInt8 × Bool)} (he : Cal.evs s.data.toList = done ++ Cal.evs (s.data.toList.drop k)) :
  Cal.evs s.data.toList = (done ++ [(s[k], Cal.isCode s[k])]) ++ Cal.evs (s.data.toList.drop (k + 1)) := by
 rw [he, drop_one s k h, Cal.evs_plain, List.append_assoc]
 ·rfl
 ·rcases hc with hc | hc
  ·exact .inl (fun e => hc (by rw [e]; rfl))
  ·exact .inr (drop_all s _ hc)
def Hands (N : Nat) (F : Nat) (cap : Array Value) (I : List (UInt8 × Bool) → World → Prop) : Prop :=
 ∀ (done : List (UInt8 × Bool)) (c : UInt8) (b : Bool) (w : World), done.length < N → (b = true → Cal.isCode c = true) → I done w →
  Calls Tryz.prog F (#[.int .u8 c.toNat, .bool b] ++ cap) w fun e w' => e = .returned (.tuple #[]) ∧ I (done ++ [(c, b)]) w'
theorem codes_any (s : ByteArray) (F : Nat) (cap : Array Value) (I : List (UInt8 × Bool) → World → Prop) (w : World) (hs : s.size ≤ 1000000)
  (hF : ∀ args w, (callFunc F args).run Tryz.prog w = .ok (.enter F args) w) (h : Hands s.size F cap I) (h0 : I [] w) :
  Calls Tryz.prog 69 #[.string s, .func (.func F) #[] cap] w fun e w' => e = .returned (.tuple #[]) ∧ I (Cal.evs s.data.toList) w' := by
 go_enter Tryz.func69, Tryz.ntmps69
 go_wp2
 go_loopg [4] (s.size + 1) (fun g i wr => ∃ (k : Nat) (done : List (UInt8 × Bool)), k ≤ s.size ∧ s.size - k < g ∧ i = .int .i64 k ∧ done.length ≤ k ∧ Cal.evs s.data.toList = done ++ Cal.evs (s.data.toList.drop k) ∧ I done wr)
 case atStart => exact ⟨0, [], by omega, by omega, rfl, by simp, by simp, h0⟩
 case round =>
  obtain ⟨k, done, hk, hg, rfl, hdl, hev, hI⟩ := hrel
  have HE := Lib.hid hev
  clear hev h0
  by_cases hlt : k < s.size
  ·go_wp2_with fail
   ·have hc : (s[k].toNat : Int) = 92 := by assumption
    have hk1 : k + 1 < s.size := by omega
    refine (h done s[k + 1] false _ (by omega) (by intro e; cases e) hI).mono ?_
    rintro e w2 ⟨rfl, hI2⟩
    have HE2 := Lib.hid (ev_back hk1 hc HE.out)
    clear hI
    go_wp2_with fail
    go_roundg (s.size - (k + 2) + 1)
    case measure => omega
    case rel => exact ⟨k + 2, _, by omega, by omega, by go_num, by simp; omega, HE2.out, hI2⟩
   ·have hc : (s[k].toNat : Int) = 92 := by assumption
    have hk1 : s.size ≤ k + 1 := by omega
    have e : s[k] = 92 := byte92 hc
    refine (Tryz.strings_IndexByte _ _ _).mono ?_
    rintro e w2 ⟨rfl, rfl⟩
    have HE2 := Lib.hid (ev_plain hlt (.inr hk1) HE.out)
    rw [e] at HE2
    go_wp2_with fail
    refine (h done 92 _ _ (by omega) (by rw [index_code]; exact id) hI).mono ?_
    rintro e w2 ⟨rfl, hI2⟩
    rw [index_code] at hI2
    clear hI
    go_wp2_with fail
    go_roundg (s.size - (k + 1) + 1)
    case measure => omega
    case rel => exact ⟨k + 1, _, by omega, by omega, by go_num, by simp; omega, HE2.out, hI2⟩
   ·have hc : ¬ (s[k].toNat : Int) = 92 := by assumption
    refine (Tryz.strings_IndexByte _ _ _).mono ?_
    rintro e w2 ⟨rfl, rfl⟩
    have HE2 := Lib.hid (ev_plain hlt (.inl hc) HE.out)
    go_wp2_with fail
    refine (h done s[k] _ _ (by omega) (fun e => by rw [← index_code]; simpa using e) hI).mono ?_
    rintro e w2 ⟨rfl, hI2⟩
    first | rw [index_code] at hI2 | (simp only [UInt8.toNat_toUInt8, Int.toNat_natCast] at hI2; trace_state)
    clear hI
    go_wp2_with fail
    go_roundg (s.size - (k + 1) + 1)
    case measure => omega
    case rel => exact ⟨k + 1, _, by omega, by omega, by go_num, by simp; omega, HE2.out, hI2⟩
  ·go_wp2_with fail
   go_end0
   refine ⟨rfl, ?_⟩
   rw [HE.out, drop_all s k (by omega)]
   simpa [Cal.evs] using hI
end Go.Proofs.YtcklofamaooegaaGreatDoor
