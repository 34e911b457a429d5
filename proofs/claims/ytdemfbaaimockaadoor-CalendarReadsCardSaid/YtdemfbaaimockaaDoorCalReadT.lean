/-
  The texts that the calendar writes, read again, in plain mathematics. No program in sight. No conditions but those typed in each theorem.
-/
import Derived.Test.YtdemfbaaimockaaDoorCalParT
import Derived.Test.YtdemfbaaimockaaDoorItoa
namespace Go.Proofs.YtdemfbaaimockaaDoor
namespace Cal

def dig2 (n : Nat) : List UInt8 := [UInt8.ofNat (48 + n / 10), UInt8.ofNat (48 + n % 10)]
set_option maxRecDepth 10000 in
theorem two_dig (n : Nat) (h : n < 100) : two (n : Int) = dig2 n := by
  have e : ∀ k : Fin 100, (if (k.1 : Int) < 10 then 48 :: digF 11 k.1 else digF 11 k.1) = dig2 k.1 := by decide +kernel
  unfold two
  rw [itoa_reckon n (by omega)]
  exact e ⟨n, h⟩
set_option maxRecDepth 10000 in
theorem year_dig (n : Nat) (h : n < 100) : Lib.itoa ((2000 : Int) + n) = 50 :: 48 :: dig2 n := by
  have e : ∀ k : Fin 100, digF 11 (2000 + k.1) = 50 :: 48 :: dig2 k.1 := by decide +kernel
  rw [show (2000 : Int) + n = ((2000 + n : Nat) : Int) by omega, itoa_reckon _ (by omega)]
  exact e ⟨n, h⟩
def d10 (Y M D : Nat) : List UInt8 := 50 :: 48 :: (dig2 Y ++ 45 :: (dig2 M ++ 45 :: dig2 D))
def d16 (Y M D H I : Nat) : List UInt8 := d10 Y M D ++ 32 :: (dig2 H ++ 58 :: dig2 I)
theorem ofNat_dig (n : Nat) (h : n < 100) : ∃ a b : UInt8, dig2 n = [a, b] ∧ a.toNat = 48 + n / 10 ∧ b.toNat = 48 + n % 10 :=
  ⟨_, _, rfl, by simp; omega, by simp; omega⟩
theorem nv_of {s : ByteArray} {i n : Nat} {l : List UInt8} {v : Int} (h : cutL s i n = l) (h1 : ∀ c ∈ l, 48 ≤ c.toNat ∧ c.toNat ≤ 57) (h2 : (Num.value 0 l : Int) = v) : nv s i n = v := by
  rw [nv_yes (by rw [h]; simpa [Num.isD] using h1), h, h2]
theorem reads10 (Y M D : Nat) (hY : Y < 100) (hM : M < 100) (hD : D < 100) :
    Shp ⟨(d10 Y M D).toArray⟩ form10 ∧ nv ⟨(d10 Y M D).toArray⟩ 0 4 = 2000 + Y ∧ nv ⟨(d10 Y M D).toArray⟩ 5 2 = M ∧ nv ⟨(d10 Y M D).toArray⟩ 8 2 = D := by
  obtain ⟨a, b, e1, a1, b1⟩ := ofNat_dig Y hY
  obtain ⟨c, d, e2, c1, d1⟩ := ofNat_dig M hM
  obtain ⟨e, f, e3, f1, g1⟩ := ofNat_dig D hD
  unfold d10
  rw [e1, e2, e3]
  refine ⟨shp_list.2 ?_, nv_of (l := [50, 48, a, b]) rfl ?_ ?_, nv_of (l := [c, d]) rfl ?_ ?_, nv_of (l := [e, f]) rfl ?_ ?_⟩
  · simp [fits]; omega
  · simp; omega
  · simp [Num.value]; omega
  · simp; omega
  · simp [Num.value]; omega
  · simp; omega
  · simp [Num.value]; omega
theorem reads16 (Y M D H I : Nat) (hY : Y < 100) (hM : M < 100) (hD : D < 100) (hH : H < 100) (hI : I < 100) :
    Shp ⟨(d16 Y M D H I).toArray⟩ form16 ∧ nv ⟨(d16 Y M D H I).toArray⟩ 0 4 = 2000 + Y ∧ nv ⟨(d16 Y M D H I).toArray⟩ 5 2 = M ∧ nv ⟨(d16 Y M D H I).toArray⟩ 8 2 = D
      ∧ nv ⟨(d16 Y M D H I).toArray⟩ 11 2 = H ∧ nv ⟨(d16 Y M D H I).toArray⟩ 14 2 = I := by
  obtain ⟨a, b, e1, a1, b1⟩ := ofNat_dig Y hY
  obtain ⟨c, d, e2, c1, d1⟩ := ofNat_dig M hM
  obtain ⟨e, f, e3, f1, g1⟩ := ofNat_dig D hD
  obtain ⟨p, q, e4, p1, q1⟩ := ofNat_dig H hH
  obtain ⟨r, t, e5, r1, t1⟩ := ofNat_dig I hI
  unfold d16 d10
  rw [e1, e2, e3, e4, e5]
  refine ⟨shp_list.2 ?_, nv_of (l := [50, 48, a, b]) rfl ?_ ?_, nv_of (l := [c, d]) rfl ?_ ?_, nv_of (l := [e, f]) rfl ?_ ?_, nv_of (l := [p, q]) rfl ?_ ?_, nv_of (l := [r, t]) rfl ?_ ?_⟩
  · simp [fits]; omega
  · simp; omega
  · simp [Num.value]; omega
  · simp; omega
  · simp [Num.value]; omega
  · simp; omega
  · simp [Num.value]; omega
  · simp; omega
  · simp [Num.value]; omega
  · simp; omega
  · simp [Num.value]; omega

/-- the two texts of an instant -/
theorem text16 (n : Int) (h0 : 0 ≤ n) (h1 : n ≤ 52595999) : ∃ Y M D H I : Nat, Y < 100 ∧ M < 100 ∧ D < 100 ∧ H < 24 ∧ I < 60
    ∧ fmt n (evs [89, 45, 109, 45, 100, 32, 72, 58, 105]) = d16 Y M D H I ∧ fmt n (evs [92, 89, 92, 109, 32, 89, 45, 109, 45, 100]) = 89 :: 109 :: 32 :: d10 Y M D
    ∧ minV (2000 + Y) M D ((H : Int) * 60 + I) = n ∧ minE (2000 + Y) M D ((H : Int) * 60 + I) = 0 ∧ minV (2000 + Y) M D 0 = n - n % 1440 ∧ minE (2000 + Y) M D 0 = 0 := by
  obtain ⟨a1, a2, a3, a4, a5, a6, a7⟩ := dateOf_spec (n / 1440) (by omega) (by omega)
  have a8 := dim_bd (yOf (n / 1440)) (mOf (n / 1440))
  have v1 : vd (yOf (n / 1440)) (mOf (n / 1440)) (dOf (n / 1440)) (n % 1440) = true := vd_iff.2 (by omega)
  have v2 : vd (yOf (n / 1440)) (mOf (n / 1440)) (dOf (n / 1440)) 0 = true := vd_iff.2 (by omega)
  have m1 := minV_yes v1
  have m2 := minV_yes v2
  have m3 := minE_yes v1
  have m4 := minE_yes v2
  have l1 : evs [89, 45, 109, 45, 100, 32, 72, 58, 105] = [(89, true), (45, false), (109, true), (45, false), (100, true), (32, false), (72, true), (58, false), (105, true)] := by decide
  have l2 : evs [92, 89, 92, 109, 32, 89, 45, 109, 45, 100] = [(89, false), (109, false), (32, false), (89, true), (45, false), (109, true), (45, false), (100, true)] := by decide
  have k1 : Lib.itoa (yOf (n / 1440)) = 50 :: 48 :: dig2 (yOf (n / 1440) - 2000).toNat := by
    rw [← year_dig _ (by omega)]; congr 1; omega
  have k2 : two (mOf (n / 1440)) = dig2 (mOf (n / 1440)).toNat := by rw [← two_dig _ (by omega)]; congr 1; omega
  have k3 : two (dOf (n / 1440)) = dig2 (dOf (n / 1440)).toNat := by rw [← two_dig _ (by omega)]; congr 1; omega
  have k4 : two (n % 1440 / 60) = dig2 (n % 1440 / 60).toNat := by rw [← two_dig _ (by omega)]; congr 1; omega
  have k5 : two (n % 60) = dig2 (n % 60).toNat := by rw [← two_dig _ (by omega)]; congr 1; omega
  refine ⟨(yOf (n / 1440) - 2000).toNat, (mOf (n / 1440)).toNat, (dOf (n / 1440)).toNat, (n % 1440 / 60).toNat, (n % 1440 % 60).toNat, by omega, by omega, by omega, by omega, by omega, ?_, ?_, ?_⟩
  · rw [l1]
    simp [fmt, piece, val, k1, k2, k3, k4, k5, d16, d10]
  · rw [l2]
    simp [fmt, piece, val, k1, k2, k3, d10]
  · have e1 : (2000 : Int) + (yOf (n / 1440) - 2000).toNat = yOf (n / 1440) := by omega
    have e2 : ((mOf (n / 1440)).toNat : Int) = mOf (n / 1440) := by omega
    have e3 : ((dOf (n / 1440)).toNat : Int) = dOf (n / 1440) := by omega
    have e4 : ((n % 1440 / 60).toNat : Int) * 60 + (n % 1440 % 60).toNat = n % 1440 := by omega
    rw [e1, e2, e3, e4]
    exact ⟨by rw [m1]; omega, m3, by rw [m2]; omega, m4⟩
theorem parse16 {Y M D H I : Nat} (hY : Y < 100) (hM : M < 100) (hD : D < 100) (hH : H < 24) (hI : I < 60) :
    parV ⟨(d16 Y M D H I).toArray⟩ = minV (2000 + Y) M D ((H : Int) * 60 + I) ∧ parE ⟨(d16 Y M D H I).toArray⟩ = minE (2000 + Y) M D ((H : Int) * 60 + I) := by
  obtain ⟨a, b, c, d, e, f⟩ := reads16 Y M D H I hY hM hD (by omega) (by omega)
  have hn : ¬ Shp ⟨(d16 Y M D H I).toArray⟩ form10 := fun h => by have := h.1; have h2 := a.1; rw [this] at h2; exact absurd h2 (by decide)
  have hr : (H : Int) ≤ 23 ∧ (I : Int) ≤ 59 := by omega
  simp only [parV, parE, hn, a, b, c, d, e, f, hr, if_false, if_true, and_self]
theorem parse10 {Y M D : Nat} (hY : Y < 100) (hM : M < 100) (hD : D < 100) :
    parV ⟨(d10 Y M D).toArray⟩ = minV (2000 + Y) M D 0 ∧ parE ⟨(d10 Y M D).toArray⟩ = minE (2000 + Y) M D 0 := by
  obtain ⟨a, b, c, d⟩ := reads10 Y M D hY hM hD
  simp only [parV, parE, a, b, c, d, if_true, and_self]
end Cal
end Go.Proofs.YtdemfbaaimockaaDoor
