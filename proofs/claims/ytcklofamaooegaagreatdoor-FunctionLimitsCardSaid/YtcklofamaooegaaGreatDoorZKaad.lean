/-
  The claim's own texts, packed. Conditions: those typed in each theorem.
-/
import Derived.Test.YtcklofamaooegaaGreatDoorZKaab
import Derived.Test.YtcklofamaooegaaGreatDoorZKaac
set_option maxHeartbeats 4000000
set_option maxRecDepth 10000
set_option linter.unusedVariables false
namespace Go.Proofs.YtcklofamaooegaaGreatDoor
namespace Cal
def fits (c f : UInt8) : Bool := if 65 ≤ f.toNat then decide (48 ≤ c.toNat ∧ c.toNat ≤ 57) else decide (c.toNat = f.toNat)
def form10 : ByteArray := ⟨#[89, 89, 89, 89, 45, 77, 77, 45, 68, 68]⟩
def form16 : ByteArray := ⟨#[89, 89, 89, 89, 45, 77, 77, 45, 68, 68, 32, 72, 72, 58, 77, 77]⟩
def Shp (s f : ByteArray) : Prop := s.size = f.size ∧ ∀ k (h1 : k < s.size) (h2 : k < f.size), fits s[k] f[k] = true
def cutL (s : ByteArray) (i n : Nat) : List UInt8 := (s.data.toList.drop i).take n
def nv (s : ByteArray) (i n : Nat) : Int := if (cutL s i n).all Num.isD = true then (Num.value 0 (cutL s i n) : Nat) else -1
theorem cut_ext (s : ByteArray) (i n : Nat) : (s.extract i (i + n)).data.toList = cutL s i n := by
 simp [cutL]
theorem nv_yes {s : ByteArray} {i n : Nat} (h : (cutL s i n).all Num.isD = true) : nv s i n = (Num.value 0 (cutL s i n) : Nat) := by rw [nv, if_pos h]
theorem nv_no {s : ByteArray} {i n : Nat} (h : ¬ (cutL s i n).all Num.isD = true) : nv s i n = -1 := by rw [nv, if_neg h]
theorem nv_neg {s : ByteArray} {i n : Nat} : (0 ≤ nv s i n) ↔ (cutL s i n).all Num.isD = true := by
 constructor
 ·intro h
  by_cases h1 : (cutL s i n).all Num.isD = true
  ·exact h1
  ·rw [nv_no h1] at h; omega
 ·intro h; rw [nv_yes h]; omega
theorem atoi_dig {c : UInt8} {r : List UInt8} (h : ∀ x ∈ c :: r, Num.isD x = true) (hl : r.length ≤ 17) : Lib.atoiAll (c :: r) = .ok (Num.value 0 (c :: r)) := by
 have hp : 10 ^ (c :: r).length ≤ 10 ^ 18 := Nat.pow_le_pow_right (by omega) (by simp; omega)
 have hv := Num.value_lt h 0
 have hc := Num.isD_iff.1 (h c (by simp))
 have e : Lib.parseMag (c :: r) = .ok (Num.value 0 (c :: r)) := by
  rw [Lib.parseMag, if_neg (by simp), Num.parse_digits _ 0 h (by omega)]
 unfold Lib.atoiAll
 simp only [show ¬ (c.toNat = 43 ∨ c.toNat = 45) by omega, if_false, e]
 rw [if_neg (by omega), if_neg (by omega)]
 simp
 intro h; omega
theorem atoi_cut {s : ByteArray} {i n : Nat} (hs : i + n ≤ s.size) (h1 : 1 ≤ n) (h4 : n ≤ 4) (h : (cutL s i n).all Num.isD = true) : Lib.atoiAll (s.extract i (i + n)).data.toList = .ok (nv s i n) := by
 rw [cut_ext, nv_yes h]
 have hl : (cutL s i n).length = n := by
  unfold cutL
  rw [List.length_take, List.length_drop]
  have e : s.data.toList.length = s.size := by simp
  omega
 cases hc : cutL s i n with
 | nil => rw [hc] at hl; simp at hl; omega
 | cons c r =>
   rw [hc] at hl h
   exact atoi_dig (by simpa using h) (by simp at hl; omega)
theorem ten {s : ByteArray} (h : s.size = 10) : ∃ a0 a1 a2 a3 a4 a5 a6 a7 a8 a9, s = ⟨#[a0, a1, a2, a3, a4, a5, a6, a7, a8, a9]⟩ := by
 obtain ⟨⟨l⟩⟩ := s
 replace h : l.length = 10 := h
 match l, h with
 | [a0, a1, a2, a3, a4, a5, a6, a7, a8, a9], _ => exact ⟨a0, a1, a2, a3, a4, a5, a6, a7, a8, a9, rfl⟩
theorem sixteen {s : ByteArray} (h : s.size = 16) : ∃ a0 a1 a2 a3 a4 a5 a6 a7 a8 a9 b0 b1 b2 b3 b4 b5, s = ⟨#[a0, a1, a2, a3, a4, a5, a6, a7, a8, a9, b0, b1, b2, b3, b4, b5]⟩ := by
 obtain ⟨⟨l⟩⟩ := s
 replace h : l.length = 16 := h
 match l, h with
 | [a0, a1, a2, a3, a4, a5, a6, a7, a8, a9, b0, b1, b2, b3, b4, b5], _ => exact ⟨a0, a1, a2, a3, a4, a5, a6, a7, a8, a9, b0, b1, b2, b3, b4, b5, rfl⟩
theorem shp_list {l m : List UInt8} : Shp ⟨l.toArray⟩ ⟨m.toArray⟩ ↔ l.length = m.length ∧ (List.zipWith fits l m).all id = true := by
 unfold Shp
 constructor
 ·rintro ⟨h1, h2⟩
  replace h1 : l.length = m.length := h1
  refine ⟨h1, ?_⟩
  rw [List.all_eq_true]
  intro x hx
  obtain ⟨k, hk, rfl⟩ := List.mem_iff_getElem.1 hx
  rw [List.length_zipWith] at hk
  have := h2 k (by show k < l.length; omega) (by show k < m.length; omega)
  rw [List.getElem_zipWith]
  exact this
 ·rintro ⟨h1, h2⟩
  refine ⟨h1, ?_⟩
  intro k k1 k2
  replace k1 : k < l.length := k1
  replace k2 : k < m.length := k2
  rw [List.all_eq_true] at h2
  have h3 := h2 ((List.zipWith fits l m)[k]'(by rw [List.length_zipWith]; omega)) (List.getElem_mem _)
  rw [List.getElem_zipWith] at h3
  exact h3
theorem shp10 {s : ByteArray} (h : s.size = 10) : Shp s form10 ↔ (s[4].toNat = 45 ∧ s[7].toNat = 45 ∧ 0 ≤ nv s 0 4 ∧ 0 ≤ nv s 5 2 ∧ 0 ≤ nv s 8 2) := by
 obtain ⟨a0, a1, a2, a3, a4, a5, a6, a7, a8, a9, rfl⟩ := ten h
 simp only [nv_neg]
 have := shp_list (l := [a0, a1, a2, a3, a4, a5, a6, a7, a8, a9]) (m := [89, 89, 89, 89, 45, 77, 77, 45, 68, 68])
 refine this.trans ?_
 simp [cutL, fits, Num.isD, ByteArray.getElem_eq_getElem_data]
 constructor <;> (intro h; simp only [h, and_self])
theorem shp16 {s : ByteArray} (h : s.size = 16) : Shp s form16 ↔ (s[4].toNat = 45 ∧ s[7].toNat = 45 ∧ s[10].toNat = 32 ∧ s[13].toNat = 58 ∧ 0 ≤ nv s 0 4 ∧ 0 ≤ nv s 5 2 ∧ 0 ≤ nv s 8 2 ∧ 0 ≤ nv s 11 2 ∧ 0 ≤ nv s 14 2) := by
 obtain ⟨a0, a1, a2, a3, a4, a5, a6, a7, a8, a9, b0, b1, b2, b3, b4, b5, rfl⟩ := sixteen h
 simp only [nv_neg]
 have := shp_list (l := [a0, a1, a2, a3, a4, a5, a6, a7, a8, a9, b0, b1, b2, b3, b4, b5]) (m := [89, 89, 89, 89, 45, 77, 77, 45, 68, 68, 32, 72, 72, 58, 77, 77])
 refine this.trans ?_
 simp [cutL, fits, Num.isD, ByteArray.getElem_eq_getElem_data]
 constructor <;> (intro h; simp only [h, and_self])
open Classical in
noncomputable def parV (s : ByteArray) : Int :=
 if Shp s form10 then minV (nv s 0 4) (nv s 5 2) (nv s 8 2) 0
 else if Shp s form16 ∧ nv s 11 2 ≤ 23 ∧ nv s 14 2 ≤ 59 then minV (nv s 0 4) (nv s 5 2) (nv s 8 2) (nv s 11 2 * 60 + nv s 14 2) else 0
open Classical in
noncomputable def parE (s : ByteArray) : Int :=
 if Shp s form10 then minE (nv s 0 4) (nv s 5 2) (nv s 8 2) 0
 else if Shp s form16 then (if nv s 11 2 ≤ 23 ∧ nv s 14 2 ≤ 59 then minE (nv s 0 4) (nv s 5 2) (nv s 8 2) (nv s 11 2 * 60 + nv s 14 2) else 2) else 1
end Cal
end Go.Proofs.YtcklofamaooegaaGreatDoor
