/-
  The notation with a point, by the program. Conditions: those typed in each theorem; the library's table of powers of ten reads as its initialiser lays it.
-/
import Derived.Test.YtlkfnpmcihfjmaaDoorBlp
import Derived.Test.YtlkfnpmcihfjmaaDoorBlg
import Derived.Lib.Repeat

namespace Go.Proofs.YtlkfnpmcihfjmaaDoor
open Go.RowKit

theorem rep_zeros (c : Nat) : Lib.repeatL [48] c = Num.zeros c := by
  induction c with
  | zero => rfl
  | succ c ih => rw [Lib.repeatL, ih]; rfl
theorem repeat_any (c : Nat) (w : World) (hc : c ≤ 100) : Calls Tryd.prog 21 #[.string ⟨#[48]⟩, .int .i64 c] w fun e w' => e = .returned (.string ⟨(Num.zeros c).toArray⟩) ∧ Below w.heap.size w w' := by
  have := Tryd.strings_Repeat ⟨#[48]⟩ c w (by omega) (by show 1 * c ≤ _; omega)
  rw [show (⟨#[48]⟩ : ByteArray).data.toList = [48] from rfl, rep_zeros] at this
  exact this

/-- an integer's notation with k digits behind the point -/
def decZ (n : Int) (k : Nat) : List UInt8 := (if n < 0 then [45] else []) ++ Num.dec n.natAbs k
theorem mk_append (a b : List UInt8) : (⟨a.toArray⟩ : ByteArray) ++ ⟨b.toArray⟩ = ⟨(a ++ b).toArray⟩ := by
  rw [ByteArray.mk_append_mk]
theorem cut_left (a b : List UInt8) (i : Nat) (h : a.length = i) : (⟨(a ++ b).toArray⟩ : ByteArray).extract 0 i = ⟨a.toArray⟩ := by
  apply ByteArray.ext
  rw [ByteArray.data_extract]
  show (a ++ b).toArray.extract 0 i = a.toArray
  subst h
  simp
theorem cut_right (a b : List UInt8) (i j : Nat) (h : a.length = i) (h' : a.length + b.length = j) : (⟨(a ++ b).toArray⟩ : ByteArray).extract i j = ⟨b.toArray⟩ := by
  apply ByteArray.ext
  rw [ByteArray.data_extract]
  show (a ++ b).toArray.extract i j = b.toArray
  subst h h'
  simp
theorem size_mk (a : List UInt8) : (⟨a.toArray⟩ : ByteArray).size = a.length := List.size_toArray

end Go.Proofs.YtlkfnpmcihfjmaaDoor
