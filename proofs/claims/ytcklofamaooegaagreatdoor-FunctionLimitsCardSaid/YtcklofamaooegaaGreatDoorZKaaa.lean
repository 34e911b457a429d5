/-
  The claim's own texts, packed. Conditions: those typed in each theorem.
-/
set_option maxHeartbeats 4000000
set_option maxRecDepth 10000
set_option linter.unusedVariables false
namespace Go.Proofs.YtcklofamaooegaaGreatDoor
namespace Cal
def dim (y m : Int) : Int := if m = 2 then (if y % 4 = 0 then 29 else 28) else if m = 4 ∨ m = 6 ∨ m = 9 ∨ m = 11 then 30 else 31
def dby (y : Int) : Int := 365 * (y - 2000) + (y - 2000 + 3) / 4
def cum (y m : Int) : Int :=
 if m ≤ 1 then 0 else if m = 2 then 31 else (if y % 4 = 0 then 1 else 0) +
  (if m = 3 then 59 else if m = 4 then 90 else if m = 5 then 120 else if m = 6 then 151 else if m = 7 then 181 else if m = 8 then 212 else if m = 9 then 243 else if m = 10 then 273 else if m = 11 then 304 else if m = 12 then 334 else 365)
theorem twelve {m : Int} (h1 : 1 ≤ m) (h2 : m ≤ 12) : m = 1 ∨ m = 2 ∨ m = 3 ∨ m = 4 ∨ m = 5 ∨ m = 6 ∨ m = 7 ∨ m = 8 ∨ m = 9 ∨ m = 10 ∨ m = 11 ∨ m = 12 := by omega
theorem cum_succ (y m : Int) (h1 : 1 ≤ m) (h2 : m ≤ 12) : cum y (m + 1) = cum y m + dim y m := by
 rcases twelve h1 h2 with rfl | rfl | rfl | rfl | rfl | rfl | rfl | rfl | rfl | rfl | rfl | rfl <;> simp [cum, dim] <;> split <;> omega
theorem dim_bd (y m : Int) : 28 ≤ dim y m ∧ dim y m ≤ 31 := by unfold dim; split <;> split <;> omega
theorem cum_bd (y m : Int) (h1 : 1 ≤ m) (h2 : m ≤ 12) : 0 ≤ cum y m ∧ cum y m ≤ 335 := by
 rcases twelve h1 h2 with rfl | rfl | rfl | rfl | rfl | rfl | rfl | rfl | rfl | rfl | rfl | rfl <;> simp [cum] <;> split <;> omega
theorem cum_one (y : Int) : cum y 1 = 0 := by simp [cum]
theorem cum_13 (y : Int) : cum y 13 = 365 + (if y % 4 = 0 then 1 else 0) := by simp [cum]; omega
theorem dby_succ (y : Int) : dby (y + 1) = dby y + 365 + (if y % 4 = 0 then 1 else 0) := by
 unfold dby; split <;> omega
theorem dby_bd (y : Int) (h1 : 2000 ≤ y) (h2 : y ≤ 2100) : 0 ≤ dby y ∧ dby y ≤ 36525 := by unfold dby; omega
def vd (y m d c : Int) : Bool := decide (2000 ≤ y ∧ y ≤ 2099 ∧ 1 ≤ m ∧ m ≤ 12 ∧ 1 ≤ d ∧ d ≤ dim y m ∧ 0 ≤ c ∧ c ≤ 1439)
def minV (y m d c : Int) : Int := if vd y m d c = true then (dby y + cum y m + d - 1) * 1440 + c else 0
def minE (y m d c : Int) : Int := if vd y m d c = true then 0 else 2
theorem vd_iff {y m d c : Int} : vd y m d c = true ↔ (2000 ≤ y ∧ y ≤ 2099 ∧ 1 ≤ m ∧ m ≤ 12 ∧ 1 ≤ d ∧ d ≤ dim y m ∧ 0 ≤ c ∧ c ≤ 1439) := by simp [vd]
theorem minV_yes {y m d c : Int} (h : vd y m d c = true) : minV y m d c = (dby y + cum y m + d - 1) * 1440 + c := by simp [minV, h]
theorem minV_no {y m d c : Int} (h : vd y m d c = false) : minV y m d c = 0 := by simp [minV, h]
theorem minE_yes {y m d c : Int} (h : vd y m d c = true) : minE y m d c = 0 := by simp [minE, h]
theorem minE_no {y m d c : Int} (h : vd y m d c = false) : minE y m d c = 2 := by simp [minE, h]
def yOf (n : Int) : Int := 2000 + 4 * n / 1461
def rOf (n : Int) : Int := n - dby (yOf n)
def mon (y r : Int) : Int := if r < cum y 2 then 1 else if r < cum y 3 then 2 else if r < cum y 4 then 3 else if r < cum y 5 then 4 else if r < cum y 6 then 5 else if r < cum y 7 then 6
 else if r < cum y 8 then 7 else if r < cum y 9 then 8 else if r < cum y 10 then 9 else if r < cum y 11 then 10 else if r < cum y 12 then 11 else 12
def mOf (n : Int) : Int := mon (yOf n) (rOf n)
def dOf (n : Int) : Int := rOf n - cum (yOf n) (mOf n) + 1
theorem yOf_bd (n : Int) (h1 : 0 ≤ n) (h2 : n < 36525) : 2000 ≤ yOf n ∧ yOf n ≤ 2099 ∧ dby (yOf n) ≤ n ∧ n < dby (yOf n + 1) := by
 unfold yOf dby; omega
theorem mon_eq {y m r : Int} (h1 : 1 ≤ m) (h2 : m ≤ 12) (h3 : cum y m ≤ r) (h4 : r < cum y (m + 1)) : mon y r = m := by
 rcases twelve h1 h2 with rfl | rfl | rfl | rfl | rfl | rfl | rfl | rfl | rfl | rfl | rfl | rfl <;>
  simp [cum] at h3 h4 <;> (by_cases hy : y % 4 = 0) <;> (try simp [hy] at h3 h4) <;> simp [mon, cum, hy] <;> omega
theorem mon_bd {y r : Int} (h1 : 0 ≤ r) (h2 : r < cum y 13) : 1 ≤ mon y r ∧ mon y r ≤ 12 ∧ cum y (mon y r) ≤ r ∧ r < cum y (mon y r + 1) := by
 have hx : ∃ m, 1 ≤ m ∧ m ≤ 12 ∧ cum y m ≤ r ∧ r < cum y (m + 1) := by
  by_cases a2 : r < cum y 2
  ·exact ⟨1, by omega, by omega, by simp [cum]; omega, a2⟩
  by_cases a3 : r < cum y 3
  ·exact ⟨2, by omega, by omega, by omega, a3⟩
  by_cases a4 : r < cum y 4
  ·exact ⟨3, by omega, by omega, by omega, a4⟩
  by_cases a5 : r < cum y 5
  ·exact ⟨4, by omega, by omega, by omega, a5⟩
  by_cases a6 : r < cum y 6
  ·exact ⟨5, by omega, by omega, by omega, a6⟩
  by_cases a7 : r < cum y 7
  ·exact ⟨6, by omega, by omega, by omega, a7⟩
  by_cases a8 : r < cum y 8
  ·exact ⟨7, by omega, by omega, by omega, a8⟩
  by_cases a9 : r < cum y 9
  ·exact ⟨8, by omega, by omega, by omega, a9⟩
  by_cases a10 : r < cum y 10
  ·exact ⟨9, by omega, by omega, by omega, a10⟩
  by_cases a11 : r < cum y 11
  ·exact ⟨10, by omega, by omega, by omega, a11⟩
  by_cases a12 : r < cum y 12
  ·exact ⟨11, by omega, by omega, by omega, a12⟩
  ·exact ⟨12, by omega, by omega, by omega, h2⟩
 obtain ⟨m, a, b, c, d⟩ := hx
 rw [mon_eq a b c d]
 exact ⟨a, b, c, d⟩
theorem dateOf_spec (n : Int) (h1 : 0 ≤ n) (h2 : n < 36525) :
  2000 ≤ yOf n ∧ yOf n ≤ 2099 ∧ 1 ≤ mOf n ∧ mOf n ≤ 12 ∧ 1 ≤ dOf n ∧ dOf n ≤ dim (yOf n) (mOf n) ∧ dby (yOf n) + cum (yOf n) (mOf n) + dOf n - 1 = n := by
 obtain ⟨a, b, c, d⟩ := yOf_bd n h1 h2
 have hs := dby_succ (yOf n)
 have h13 := cum_13 (yOf n)
 obtain ⟨e, f, g, h⟩ := mon_bd (y := yOf n) (r := rOf n) (by unfold rOf; omega) (by unfold rOf; omega)
 have hc := cum_succ (yOf n) (mOf n) e f
 have g' : cum (yOf n) (mOf n) ≤ rOf n := g
 have h' : rOf n < cum (yOf n) (mOf n + 1) := h
 unfold dOf
 refine ⟨a, b, e, f, by omega, by omega, ?_⟩
 unfold rOf; omega
end Cal
end Go.Proofs.YtcklofamaooegaaGreatDoor
