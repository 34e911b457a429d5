/-
  The claim's own texts, packed. Conditions: those typed in each theorem.
-/
import Derived.Lib.ItoaNum
import Derived.Lib.ItoaLen
import Derived.Lib.Bytealg
import Derived.Test.YtcklofamaooegaaGreatDoorZKaaa
set_option maxHeartbeats 4000000
set_option maxRecDepth 10000
set_option linter.unusedVariables false
namespace Go.Proofs.YtcklofamaooegaaGreatDoor
namespace Cal
def two (n : Int) : List UInt8 := if n < 10 then 48 :: Lib.itoa n else Lib.itoa n
def monthL (m : Int) : List UInt8 := if m = 1 then [74, 97, 110, 117, 97, 114, 121] else if m = 2 then [70, 101, 98, 114, 117, 97, 114, 121] else if m = 3 then [77, 97, 114, 99, 104] else if m = 4 then [65, 112, 114, 105, 108] else if m = 5 then [77, 97, 121] else if m = 6 then [74, 117, 110, 101] else if m = 7 then [74, 117, 108, 121] else if m = 8 then [65, 117, 103, 117, 115, 116] else if m = 9 then [83, 101, 112, 116, 101, 109, 98, 101, 114] else if m = 10 then [79, 99, 116, 111, 98, 101, 114] else if m = 11 then [78, 111, 118, 101, 109, 98, 101, 114] else [68, 101, 99, 101, 109, 98, 101, 114]
def dayL (m : Int) : List UInt8 := if m = 1 then [77, 111, 110, 100, 97, 121] else if m = 2 then [84, 117, 101, 115, 100, 97, 121] else if m = 3 then [87, 101, 100, 110, 101, 115, 100, 97, 121] else if m = 4 then [84, 104, 117, 114, 115, 100, 97, 121] else if m = 5 then [70, 114, 105, 100, 97, 121] else if m = 6 then [83, 97, 116, 117, 114, 100, 97, 121] else [83, 117, 110, 100, 97, 121]
def wd (n : Int) : Int := (n / 1440 + 5) % 7 + 1
def val (c : UInt8) (n : Int) : List UInt8 :=
 if c = 89 then Lib.itoa (yOf (n / 1440)) else if c = 109 then two (mOf (n / 1440)) else if c = 110 then Lib.itoa (mOf (n / 1440)) else if c = 70 then monthL (mOf (n / 1440)) else if c = 77 then (monthL (mOf (n / 1440))).take 3
 else if c = 100 then two (dOf (n / 1440)) else if c = 106 then Lib.itoa (dOf (n / 1440)) else if c = 122 then Lib.itoa (n / 1440 - dby (yOf (n / 1440))) else if c = 78 then Lib.itoa (wd n)
 else if c = 108 then dayL (wd n) else if c = 68 then (dayL (wd n)).take 3 else if c = 72 then two (n % 1440 / 60) else if c = 71 then Lib.itoa (n % 1440 / 60) else two (n % 1440 % 60)
def codeL : List UInt8 := [89, 109, 110, 70, 77, 100, 106, 122, 78, 108, 68, 72, 71, 105]
def isCode (c : UInt8) : Bool := codeL.contains c
theorem isCode_cases {c : UInt8} (h : isCode c = true) : c = 89 ∨ c = 109 ∨ c = 110 ∨ c = 70 ∨ c = 77 ∨ c = 100 ∨ c = 106 ∨ c = 122 ∨ c = 78 ∨ c = 108 ∨ c = 68 ∨ c = 72 ∨ c = 71 ∨ c = 105 := by
 simpa [isCode, codeL] using h
def okLen (l : List UInt8) : Prop := 3 ≤ l.length ∧ l.length ≤ 9
theorem ok_ite {p : Prop} [Decidable p] {a b : List UInt8} (ha : okLen a) (hb : okLen b) : okLen (if p then a else b) := by by_cases h : p <;> simp [h, ha, hb]
theorem month_three (m : Int) : 3 ≤ (monthL m).length ∧ (monthL m).length ≤ 9 := by
 show okLen (monthL m)
 unfold monthL
 repeat (refine ok_ite (by unfold okLen; decide) ?_)
 unfold okLen; decide
theorem day_three (m : Int) : 3 ≤ (dayL m).length ∧ (dayL m).length ≤ 9 := by
 show okLen (dayL m)
 unfold dayL
 repeat (refine ok_ite (by unfold okLen; decide) ?_)
 unfold okLen; decide
theorem two_len (n : Int) (h0 : 0 ≤ n) (h1 : n ≤ 1000) : (two n).length ≤ 22 := by
 have := Lib.itoa_length_le n (by omega) (by omega)
 unfold two; split <;> simp <;> omega
def evs : List UInt8 → List (UInt8 × Bool)
 | [] => []
 | [c] => [(c, isCode c)]
 | c :: d :: r => if c = 92 then (d, false) :: evs r else (c, isCode c) :: evs (d :: r)
theorem evs_plain (c : UInt8) (r : List UInt8) (h : c ≠ 92 ∨ r = []) : evs (c :: r) = (c, isCode c) :: evs r := by
 cases r with
 | nil => simp [evs]
 | cons d r =>
   have : c ≠ 92 := by simpa using h
   rw [evs, if_neg this]
theorem evs_back (d : UInt8) (r : List UInt8) : evs (92 :: d :: r) = (d, false) :: evs r := by rw [evs, if_pos rfl]
def piece (n : Int) (e : UInt8 × Bool) : List UInt8 := if e.2 then val e.1 n else [e.1]
def fmt (n : Int) (l : List (UInt8 × Bool)) : List UInt8 := l.flatMap (piece n)
theorem fmt_snoc (n : Int) (l : List (UInt8 × Bool)) (e : UInt8 × Bool) : fmt n (l ++ [e]) = fmt n l ++ piece n e := by simp [fmt]
def unitOf (c : UInt8) : Int := if c = 105 then 1 else if c = 72 ∨ c = 71 then 2 else if c = 100 ∨ c = 106 ∨ c = 122 ∨ c = 78 ∨ c = 108 ∨ c = 68 then 3 else if c = 109 ∨ c = 110 ∨ c = 70 ∨ c = 77 then 4 else 5
def unitStep (u : Int) (e : UInt8 × Bool) : Int := if e.2 then min u (unitOf e.1) else u
def unit (l : List (UInt8 × Bool)) : Int := l.foldl unitStep 5
theorem val_len (c : UInt8) (n : Int) (h0 : 0 ≤ n) (h1 : n ≤ 52595999) : (val c n).length ≤ 22 := by
 obtain ⟨a1, a2, a3, a4, a5, a6, a7⟩ := dateOf_spec (n / 1440) (by omega) (by omega)
 have a8 := dim_bd (yOf (n / 1440)) (mOf (n / 1440))
 have a9 := dby_bd (yOf (n / 1440)) a1 (by omega)
 have a10 := cum_bd (yOf (n / 1440)) (mOf (n / 1440)) a3 a4
 have b1 := month_three (mOf (n / 1440))
 have b2 := day_three (wd n)
 have b3 : 1 ≤ wd n ∧ wd n ≤ 7 := by unfold wd; omega
 have e (m : Int) (h : 0 ≤ m ∧ m ≤ 10000) : (Lib.itoa m).length ≤ 22 := by have := Lib.itoa_length_le m (by omega) (by omega); omega
 have f (m : Int) (h : 0 ≤ m ∧ m ≤ 1000) : (two m).length ≤ 22 := two_len m h.1 h.2
 have ok (p : Prop) [Decidable p] (a b : List UInt8) (ha : a.length ≤ 22) (hb : b.length ≤ 22) : (if p then a else b).length ≤ 22 := by by_cases h : p <;> simp [h, ha, hb]
 unfold val
 refine ok _ _ _ (e _ (by omega)) ?_
 refine ok _ _ _ (f _ (by omega)) ?_
 refine ok _ _ _ (e _ (by omega)) ?_
 refine ok _ _ _ (by omega) ?_
 refine ok _ _ _ (by simp; omega) ?_
 refine ok _ _ _ (f _ (by omega)) ?_
 refine ok _ _ _ (e _ (by omega)) ?_
 refine ok _ _ _ (e _ (by omega)) ?_
 refine ok _ _ _ (e _ (by omega)) ?_
 refine ok _ _ _ (by omega) ?_
 refine ok _ _ _ (by simp; omega) ?_
 refine ok _ _ _ (f _ (by omega)) ?_
 refine ok _ _ _ (e _ (by omega)) ?_
 exact f _ (by omega)
theorem fmt_len (n : Int) (h0 : 0 ≤ n) (h1 : n ≤ 52595999) (l : List (UInt8 × Bool)) : (fmt n l).length ≤ 22 * l.length := by
 induction l with
 | nil => simp [fmt]
 | cons e l ih =>
   have := val_len e.1 n h0 h1
   have hp : (piece n e).length ≤ 22 := by unfold piece; split
                                           ·exact this
                                           ·simp
   simp only [fmt, List.flatMap_cons, List.length_append, List.length_cons] at ih ⊢
   omega
end Cal
namespace Cal
theorem byte_ne {c d : UInt8} (h : c ≠ d) : ((c.toNat : Int) == (d.toNat : Int)) = false := by
 simp only [beq_eq_false_iff_ne, ne_eq]
 intro e
 exact h (UInt8.toNat_inj.1 (by omega))
end Cal
end Go.Proofs.YtcklofamaooegaaGreatDoor
