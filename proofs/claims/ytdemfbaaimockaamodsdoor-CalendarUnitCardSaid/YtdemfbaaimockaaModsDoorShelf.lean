/-
  DERIVED: THE SHELF's CONTRACTS AT THIS DUMP, IN PLAIN WORDS (tools/lay-plain.mjs out of 'YtdemfbaaimockaaModsDoorShelfTry.lean', which tools/lay-shelf.mjs wrote): THE SAME DECLARATIONS UNDER THE SAME NAMES: 'import', 'namespace', 'open', 'def', 'theorem' AND NOTHING ELSE: no command of the shelf's: FOR A HAND-IN. Each laying: the table of numbers ('.._ren') and one theorem, a field a fact of the dump's own or the kernel's comparison; each contract: ONE APPLICATION.
-/
import Derived.Shelf.Strings.Builder1
import Derived.Shelf.Small.Strs
import Derived.Shelf.Strings.BuilderF
import Derived.Shelf.Strings.BuilderK
import Derived.Shelf.Strconv.Itoa0
import Derived.Shelf.Strconv.Itoa1
import Derived.Shelf.LaysM
import Derived.Shelf.Strconv.Itoa2
import Derived.Shelf.Strconv.Itoa3
import Derived.Shelf.Strings.Search1
import Derived.Test.YtdemfbaaimockaaModsDoorProg
namespace Go.Proofs
open Go.Shelf
def Trym.lays169_ren : Go.Shelf.Ren := ⟨fun | 169 => 34 | n => n, fun | 70 => 42 | 9 => 9 | 0 => 0 | 72 => 45 | 37 => 43 | 127 => 60 | 3 => 3 | 5 => 5 | n => n, fun | n => n⟩
theorem Trym.lays169 : Go.Proofs.Lays.n169 Trym.prog Trym.lays169_ren := {
  mixed := by kernel_rfl
  f169 := Trym.func34.trans (congrArg some (by kernel_rfl))
  t0 := Trym.underlying0
  a0 := Trym.isAgg0
  z0 := Trym.sizeOf0
  v0 := Trym.zeroValue0
  t3 := Trym.underlying3
  a3 := Trym.isAgg3
  z3 := Trym.sizeOf3
  v3 := Trym.zeroValue3
  t9 := Trym.underlying9
  a9 := Trym.isAgg9
  z9 := Trym.sizeOf9
  v9 := Trym.zeroValue9
  t37 := Trym.underlying43
  a37 := Trym.isAgg43
  z37 := Trym.sizeOf43
  v37 := Trym.zeroValue43
  t70 := Trym.underlying42
  a70 := Trym.isAgg42
  z70 := Trym.sizeOf42
  v70 := Trym.zeroValue42
  t72 := Trym.underlying45
  a72 := Trym.isAgg45
  z72 := Trym.sizeOf45
  v72 := Trym.zeroValue45
  t127 := Trym.underlying60
  a127 := Trym.isAgg60
  z127 := Trym.sizeOf60
  v127 := Trym.zeroValue60 }
theorem Trym.Builder_Extra_169 : Builder.Extra Trym.prog Trym.lays169_ren := {
  sizeBuilder := by kernel_rfl
  liesBuilder := by kernel_rfl
  t5 := Trym.underlying5
  a5 := Trym.isAgg5
  z5 := Trym.sizeOf5
  v5 := Trym.zeroValue5
  infoByte := by kernel_rfl
  cellsByte := by kernel_rfl
  sizeByte := by kernel_rfl
  neB5 := by decide }
open Go.RowKit in
/-- (*strings.Builder).String: "String returns the accumulated string.": OF A BUILDER THAT HOLDS AT LEAST ONE BYTE. ✋ THE MODEL FREEZES THOSE BYTES IN THE BUFFER (unsafe.String): a later write INTO them ends the model's run without an answer; a later append BEHIND them goes on. The statement's order of evaluation is drawn: one draw. (LAID: no walk: one application.) -/
theorem Trym.Builder_String (B b : Nat) (l : List UInt8) (w : World) (h : Lib.IsBuilder 45 5 B b (Lib.byteCells l) w) (h0 : l ≠ []) :
    Calls Trym.prog 34 #[.pointer (some ⟨b, 0, none⟩)] w fun e w' => e = .returned (.string ⟨l.toArray⟩) ∧ Below B w w' := Any.Builder_String Trym.lays169 Trym.Builder_Extra_169 B b l w h h0
open Go.RowKit in
/-- (*strings.Builder).String OF A BUILDER THAT HOLDS NO BYTE: the empty string. (Its buffer is nil, or a row of which it has taken nothing yet; where that row has NO capacity the model lays one new block for unsafe.SliceData's 'some address'.) One draw. (LAID: no walk: one application.) -/
theorem Trym.Builder_String_empty (B b : Nat) (w : World) (h : Lib.IsBuilder 45 5 B b [] w) (hBw : B ≤ w.heap.size) :
    Calls Trym.prog 34 #[.pointer (some ⟨b, 0, none⟩)] w fun e w' => e = .returned (.string ⟨#[]⟩) ∧ Below B w w' := Any.Builder_String_empty Trym.lays169 Trym.Builder_Extra_169 B b w h hBw
open Go.RowKit in
/-- (*strings.Builder).String: "String returns the accumulated string.": WHATEVER THE BUILDER HOLDS. (LAID: no walk: one application.) -/
theorem Trym.Builder_String_any (B b : Nat) (l : List UInt8) (w : World) (h : Lib.IsBuilder 45 5 B b (Lib.byteCells l) w) (hBw : B ≤ w.heap.size) :
    Calls Trym.prog 34 #[.pointer (some ⟨b, 0, none⟩)] w fun e w' => e = .returned (.string ⟨l.toArray⟩) ∧ Below B w w' := Any.Builder_String_any Trym.lays169 Trym.Builder_Extra_169 B b l w h hBw
def Trym.lays137_ren : Go.Shelf.Ren := ⟨fun | 137 => 38 | 217 => 46 | 266 => 49 | n => n, fun | 9 => 9 | 5 => 5 | 3 => 3 | n => n, fun | n => n⟩
theorem Trym.lays137 : Go.Proofs.Lays.n137 Trym.prog Trym.lays137_ren := {
  mixed := by kernel_rfl
  f137 := Trym.func38.trans (congrArg some (by kernel_rfl))
  f217 := Trym.func46.trans (congrArg some (by kernel_rfl))
  f266 := Trym.func49.trans (congrArg some (by kernel_rfl))
  t3 := Trym.underlying3
  a3 := Trym.isAgg3
  z3 := Trym.sizeOf3
  v3 := Trym.zeroValue3
  t5 := Trym.underlying5
  a5 := Trym.isAgg5
  z5 := Trym.sizeOf5
  v5 := Trym.zeroValue5
  t9 := Trym.underlying9
  a9 := Trym.isAgg9
  z9 := Trym.sizeOf9
  v9 := Trym.zeroValue9 }
open Go.RowKit in
/-- strings.IndexByte: "IndexByte returns the index of the first instance of c in s, or -1 if c is not present in s.": IT RETURNS 'Lib.indexByte s c'; the world is as it was. (LAID: no walk: one application.) -/
theorem Trym.strings_IndexByte (s : ByteArray) (c : Int) (w : World) :
    Calls Trym.prog 38 #[.string s, .int .u8 c] w fun e w' => e = .returned (.int .i64 (Lib.indexByte s.data.toList c.toNat.toUInt8)) ∧ w' = w := Any.strings_IndexByte Trym.lays137 s c w
open Go.RowKit in
/-- (*strings.Builder).String: "String returns the accumulated string.": OF A BUILDER THAT HOLDS AT LEAST ONE BYTE. ✋ THE MODEL FREEZES THOSE BYTES IN THE BUFFER (unsafe.String): a later write INTO them ends the model's run without an answer; a later append BEHIND them goes on. The statement's order of evaluation is drawn: one draw. THE FORM '_f': IT SAYS BESIDES THAT THE BUILDER IS A BUILDER STILL ('Lib.IsBuilderF', the same bytes): SO IT CAN BE WRITTEN ON: 'b.WriteString(b.String()[:k])'. (LAID: no walk: one application.) -/
theorem Trym.Builder_String_f (B b : Nat) (l : List UInt8) (w : World) (h : Lib.IsBuilderF 45 5 B b (Lib.byteCells l) w) (h0 : l ≠ []) :
    Calls Trym.prog 34 #[.pointer (some ⟨b, 0, none⟩)] w fun e w' => e = .returned (.string ⟨l.toArray⟩) ∧ (Lib.IsBuilderF 45 5 B b (Lib.byteCells l) w' ∧ Below B w w') := Any.Builder_String_f Trym.lays169 Trym.Builder_Extra_169 B b l w h h0
open Go.RowKit in
/-- (*strings.Builder).String OF A BUILDER THAT HOLDS NO BYTE: the empty string; THE FORM '_f': a builder still. (LAID: no walk: one application.) -/
theorem Trym.Builder_String_empty_f (B b : Nat) (w : World) (h : Lib.IsBuilderF 45 5 B b [] w) (hBw : B ≤ w.heap.size) :
    Calls Trym.prog 34 #[.pointer (some ⟨b, 0, none⟩)] w fun e w' => e = .returned (.string ⟨#[]⟩) ∧ (Lib.IsBuilderF 45 5 B b [] w' ∧ Below B w w') := Any.Builder_String_empty_f Trym.lays169 Trym.Builder_Extra_169 B b w h hBw
open Go.RowKit in
/-- (*strings.Builder).String: "String returns the accumulated string.": WHATEVER THE BUILDER HOLDS; THE FORM '_f': OF A BUILDER THAT MAY HAVE BEEN READ BEFORE; AND IT IS A BUILDER STILL, holding the same bytes: it can be written on. (LAID: no walk: one application.) -/
theorem Trym.Builder_String_any_f (B b : Nat) (l : List UInt8) (w : World) (h : Lib.IsBuilderF 45 5 B b (Lib.byteCells l) w) (hBw : B ≤ w.heap.size) :
    Calls Trym.prog 34 #[.pointer (some ⟨b, 0, none⟩)] w fun e w' => e = .returned (.string ⟨l.toArray⟩) ∧ (Lib.IsBuilderF 45 5 B b (Lib.byteCells l) w' ∧ Below B w w') := Any.Builder_String_any_f Trym.lays169 Trym.Builder_Extra_169 B b l w h hBw
open Go.RowKit in
/-- (*strings.Builder).String: "String returns the accumulated string.": OF A BUILDER THAT HOLDS AT LEAST ONE BYTE. ✋ THE MODEL FREEZES THOSE BYTES IN THE BUFFER (unsafe.String): a later write INTO them ends the model's run without an answer; a later append BEHIND them goes on. The statement's order of evaluation is drawn: one draw. THE FORM '_k': OVER 'Lib.IsBuilderF' (a builder that 'String()' may have read), AND WITH THE FRAME THAT REACHES ABOVE THE BUILDER: 'Lib.OthersKept': every block that is not b and is no row of uint8's stands as it stood: the iterator of a range among them. (LAID: no walk: one application.) -/
theorem Trym.Builder_String_k (B b : Nat) (l : List UInt8) (w : World) (h : Lib.IsBuilderF 45 5 B b (Lib.byteCells l) w) (h0 : l ≠ []) :
    Calls Trym.prog 34 #[.pointer (some ⟨b, 0, none⟩)] w fun e w' => e = .returned (.string ⟨l.toArray⟩) ∧ (Lib.IsBuilderF 45 5 B b (Lib.byteCells l) w' ∧ Below B w w' ∧ Lib.OthersKept 5 (some b) w w') := Any.Builder_String_k Trym.lays169 Trym.Builder_Extra_169 B b l w h h0
open Go.RowKit in
/-- (*strings.Builder).String OF A BUILDER THAT HOLDS NO BYTE: the empty string; THE FORM '_k': OVER 'Lib.IsBuilderF' (a builder that 'String()' may have read), AND WITH THE FRAME THAT REACHES ABOVE THE BUILDER: 'Lib.OthersKept': every block that is not b and is no row of uint8's stands as it stood: the iterator of a range among them. (LAID: no walk: one application.) -/
theorem Trym.Builder_String_empty_k (B b : Nat) (w : World) (h : Lib.IsBuilderF 45 5 B b [] w) (hBw : B ≤ w.heap.size) :
    Calls Trym.prog 34 #[.pointer (some ⟨b, 0, none⟩)] w fun e w' => e = .returned (.string ⟨#[]⟩) ∧ (Lib.IsBuilderF 45 5 B b [] w' ∧ Below B w w' ∧ Lib.OthersKept 5 (some b) w w') := Any.Builder_String_empty_k Trym.lays169 Trym.Builder_Extra_169 B b w h hBw
open Go.RowKit in
/-- (*strings.Builder).String: "String returns the accumulated string.": WHATEVER THE BUILDER HOLDS; THE FORM '_k': OVER 'Lib.IsBuilderF' (a builder that 'String()' may have read), AND WITH THE FRAME THAT REACHES ABOVE THE BUILDER: 'Lib.OthersKept': every block that is not b and is no row of uint8's stands as it stood: the iterator of a range among them. (LAID: no walk: one application.) -/
theorem Trym.Builder_String_any_k (B b : Nat) (l : List UInt8) (w : World) (h : Lib.IsBuilderF 45 5 B b (Lib.byteCells l) w) (hBw : B ≤ w.heap.size) :
    Calls Trym.prog 34 #[.pointer (some ⟨b, 0, none⟩)] w fun e w' => e = .returned (.string ⟨l.toArray⟩) ∧ (Lib.IsBuilderF 45 5 B b (Lib.byteCells l) w' ∧ Below B w w' ∧ Lib.OthersKept 5 (some b) w w') := Any.Builder_String_any_k Trym.lays169 Trym.Builder_Extra_169 B b l w h hBw
def Trym.lays129_ren : Go.Shelf.Ren := ⟨fun | 129 => 56 | n => n, fun | 53 => 68 | 3 => 3 | 4 => 4 | 46 => 77 | 5 => 5 | 9 => 9 | n => n, fun | n => n⟩
theorem Trym.lays129 : Go.Proofs.Lays.n129 Trym.prog Trym.lays129_ren := {
  mixed := by kernel_rfl
  f129 := Trym.func56.trans (congrArg some (by kernel_rfl))
  t3 := Trym.underlying3
  a3 := Trym.isAgg3
  z3 := Trym.sizeOf3
  v3 := Trym.zeroValue3
  t4 := Trym.underlying4
  a4 := Trym.isAgg4
  z4 := Trym.sizeOf4
  v4 := Trym.zeroValue4
  t5 := Trym.underlying5
  a5 := Trym.isAgg5
  z5 := Trym.sizeOf5
  v5 := Trym.zeroValue5
  t9 := Trym.underlying9
  a9 := Trym.isAgg9
  z9 := Trym.sizeOf9
  v9 := Trym.zeroValue9
  t46 := Trym.underlying77
  a46 := Trym.isAgg77
  z46 := Trym.sizeOf77
  v46 := Trym.zeroValue77
  t53 := Trym.underlying68
  a53 := Trym.isAgg68
  z53 := Trym.sizeOf68
  v53 := Trym.zeroValue68 }
/-- bits.Len64: "Len64 returns the minimum number of bits required to represent x; the result is 0 for x == 0.": IT RETURNS 'Lib.bitLen x'; the world is as it was. ('h0', 'h1': x is a uint64.) (LAID: no walk: one application.) -/
theorem Trym.bits_Len64 (x : Int) (w : World) (h0 : 0 ≤ x) (h1 : x ≤ 18446744073709551615) :
    Calls Trym.prog 56 #[.int .u64 x] w fun e w' => e = .returned (.int .i64 (Lib.bitLen x.toNat)) ∧ w' = w := Any.bits_Len64 Trym.lays129 x w h0 h1
def Trym.lays317_ren : Go.Shelf.Ren := ⟨fun | 317 => 55 | n => n, fun | 3 => 3 | 46 => 77 | n => n, fun | n => n⟩
theorem Trym.lays317 : Go.Proofs.Lays.n317 Trym.prog Trym.lays317_ren := {
  mixed := by kernel_rfl
  f317 := Trym.func55.trans (congrArg some (by kernel_rfl))
  t3 := Trym.underlying3
  a3 := Trym.isAgg3
  z3 := Trym.sizeOf3
  v3 := Trym.zeroValue3
  t46 := Trym.underlying77
  a46 := Trym.isAgg77
  z46 := Trym.sizeOf77
  v46 := Trym.zeroValue77 }
open Go.Lib in
/-- internal/strconv.log10Pow2: "log10Pow2(x) returns ⌊log₁₀ 2**x⌋ = ⌊x * log₁₀ 2⌋.": '(x * 78913) >> 18', at an x up to 64 (a length in bits). The world is as it was. (LAID: no walk: one application.) -/
theorem Trym.internal_strconv_log10Pow2 (x : Nat) (h : x ≤ 64) (w : World) :
    Calls Trym.prog 55 #[.int .i64 x] w fun e w' => e = .returned (.int .i64 (Lib.l10 x)) ∧ w' = w := Any.internal_strconv_log10Pow2 Trym.lays317 x h w
def Trym.lays318_ren : Go.Shelf.Ren := ⟨fun | 318 => 57 | n => n, fun | 3 => 3 | 4 => 4 | n => n, fun | n => n⟩
theorem Trym.lays318 : Go.Proofs.Lays.n318 Trym.prog Trym.lays318_ren := {
  mixed := by kernel_rfl
  f318 := Trym.func57.trans (congrArg some (by kernel_rfl))
  t3 := Trym.underlying3
  a3 := Trym.isAgg3
  z3 := Trym.sizeOf3
  v3 := Trym.zeroValue3
  t4 := Trym.underlying4
  a4 := Trym.isAgg4
  z4 := Trym.sizeOf4
  v4 := Trym.zeroValue4 }
open Go.Lib in
/-- internal/strconv.bool2: "bool2 converts b to an integer: 1 for true, 0 for false." The world is as it was. (LAID: no walk: one application.) -/
theorem Trym.internal_strconv_bool2_int (b : Bool) (w : World) :
    Calls Trym.prog 57 #[.bool b] w fun e w' => e = .returned (.int .i64 (if b then 1 else 0)) ∧ w' = w := Any.internal_strconv_bool2_int Trym.lays318 b w
def Trym.lays283_ren : Go.Shelf.Ren := ⟨fun | 283 => 51 | n => n, fun | 3 => 3 | 9 => 9 | 4 => 4 | n => n, fun | n => n⟩
theorem Trym.lays283 : Go.Proofs.Lays.n283 Trym.prog Trym.lays283_ren := {
  mixed := by kernel_rfl
  f283 := Trym.func51.trans (congrArg some (by kernel_rfl))
  t3 := Trym.underlying3
  a3 := Trym.isAgg3
  z3 := Trym.sizeOf3
  v3 := Trym.zeroValue3
  t4 := Trym.underlying4
  a4 := Trym.isAgg4
  z4 := Trym.sizeOf4
  v4 := Trym.zeroValue4
  t9 := Trym.underlying9
  a9 := Trym.isAgg9
  z9 := Trym.sizeOf9
  v9 := Trym.zeroValue9 }
open Go.Lib in
/-- internal/strconv.small: "small returns the string for an i with 0 <= i < nSmalls.": i's decimal numeral. The world is as it was. (LAID: no walk: one application.) -/
theorem Trym.internal_strconv_small (i : Nat) (h : i < 100) (w : World) :
    Calls Trym.prog 51 #[.int .i64 i] w fun e w' => e = .returned (.string ⟨(Lib.decDigits i).toArray⟩) ∧ w' = w := Any.internal_strconv_small Trym.lays283 i h w
def Trym.laysM284_ren : Go.Shelf.Ren := ⟨fun | 284 => 52 | 129 => 56 | 317 => 55 | 318 => 57 | n => n, fun | 53 => 68 | 3 => 3 | 212 => 74 | 0 => 0 | 4 => 4 | 46 => 77 | 5 => 5 | 9 => 9 | n => n, fun | 17 => 1 | n => n⟩
theorem Trym.laysM284 : Go.Proofs.LaysM.n284 Trym.prog Trym.laysM284_ren := {
  mixed := by kernel_rfl
  f129 := Trym.func56.trans (congrArg some (by kernel_rfl))
  f284 := Trym.func52.trans (congrArg some (by kernel_rfl))
  f317 := Trym.func55.trans (congrArg some (by kernel_rfl))
  f318 := Trym.func57.trans (congrArg some (by kernel_rfl))
  t0 := Trym.underlying0
  a0 := Trym.isAgg0
  z0 := Trym.sizeOf0
  v0 := Trym.zeroValue0
  t3 := Trym.underlying3
  a3 := Trym.isAgg3
  z3 := Trym.sizeOf3
  v3 := Trym.zeroValue3
  t4 := Trym.underlying4
  a4 := Trym.isAgg4
  z4 := Trym.sizeOf4
  v4 := Trym.zeroValue4
  t5 := Trym.underlying5
  a5 := Trym.isAgg5
  z5 := Trym.sizeOf5
  v5 := Trym.zeroValue5
  t9 := Trym.underlying9
  a9 := Trym.isAgg9
  z9 := Trym.sizeOf9
  v9 := Trym.zeroValue9
  t46 := Trym.underlying77
  a46 := Trym.isAgg77
  z46 := Trym.sizeOf77
  v46 := Trym.zeroValue77
  t53 := Trym.underlying68
  a53 := Trym.isAgg68
  z53 := Trym.sizeOf68
  v53 := Trym.zeroValue68
  t212 := Trym.underlying74
  a212 := Trym.isAgg74
  z212 := Trym.sizeOf74
  v212 := Trym.zeroValue74
  g17 := by kernel_rfl
  i0 := by kernel_rfl
  i3 := by kernel_rfl
  i4 := by kernel_rfl
  i5 := by kernel_rfl
  i9 := by kernel_rfl
  i46 := by kernel_rfl
  i53 := by kernel_rfl
  i212 := by kernel_rfl
  m17 := by kernel_rfl }
open Go.Lib in
/-- internal/strconv.numDigits, at a d that is not 0: THE NUMBER OF d's DECIMAL DIGITS. The world is as it was. (LAID: no walk: one application.) -/
theorem Trym.internal_strconv_numDigits (u : Nat) (h1 : 1 ≤ u) (h2 : u < 18446744073709551616) (w : World) (htab : Lib.TabIs Trym.prog w "internal/strconv.uint64pow10" .u64 Lib.pow10Tab) :
    Calls Trym.prog 52 #[.int .u64 u] w fun e w' => e = .returned (.int .i64 (Lib.nDigits u)) ∧ w' = w := Any.internal_strconv_numDigits Trym.laysM284 u h1 h2 w htab
def Trym.lays285_ren : Go.Shelf.Ren := ⟨fun | 285 => 53 | n => n, fun | 37 => 43 | 53 => 68 | 3 => 3 | 4 => 4 | 51 => 75 | 9 => 9 | 5 => 5 | 0 => 0 | n => n, fun | n => n⟩
theorem Trym.lays285 : Go.Proofs.Lays.n285 Trym.prog Trym.lays285_ren := {
  mixed := by kernel_rfl
  f285 := Trym.func53.trans (congrArg some (by kernel_rfl))
  t0 := Trym.underlying0
  a0 := Trym.isAgg0
  z0 := Trym.sizeOf0
  v0 := Trym.zeroValue0
  t3 := Trym.underlying3
  a3 := Trym.isAgg3
  z3 := Trym.sizeOf3
  v3 := Trym.zeroValue3
  t4 := Trym.underlying4
  a4 := Trym.isAgg4
  z4 := Trym.sizeOf4
  v4 := Trym.zeroValue4
  t5 := Trym.underlying5
  a5 := Trym.isAgg5
  z5 := Trym.sizeOf5
  v5 := Trym.zeroValue5
  t9 := Trym.underlying9
  a9 := Trym.isAgg9
  z9 := Trym.sizeOf9
  v9 := Trym.zeroValue9
  t37 := Trym.underlying43
  a37 := Trym.isAgg43
  z37 := Trym.sizeOf43
  v37 := Trym.zeroValue43
  t51 := Trym.underlying75
  a51 := Trym.isAgg75
  z51 := Trym.sizeOf75
  v51 := Trym.zeroValue75
  t53 := Trym.underlying68
  a53 := Trym.isAgg68
  z53 := Trym.sizeOf68
  v53 := Trym.zeroValue68 }
open Go.RowKit Go.Sort Go.Lib in
/-- internal/strconv.formatBase10: "formatBase10 formats the decimal representation of u into a. The caller is responsible for ensuring that a is big enough to hold u. If a is too big, leading zeros will be filled in as needed.": THE ROW HOLDS u's DIGITS ('FmtInv .. 0 ..': every place t holds 'dg u (len - 1 - t)'); all else is as it was but for the count of draws. (LAID: no walk: one application.) -/
theorem Trym.internal_strconv_formatBase10 (blk off cap : Nat) (u : Nat) (d : Array UInt8) (w : World) (hH : Holds (fun (b : UInt8) => Value.int .u8 (b.toNat : Int)) w blk off d) (hu : u < 10 ^ d.size) (hu64 : u < 18446744073709551616) (hsz : d.size < 4611686018427387904) :
    Calls Trym.prog 53 #[.slice (some ⟨blk, off, none⟩) d.size cap, .int .u64 u] w fun e w' =>
      e = .returned (.tuple #[]) ∧ ∃ (n v' : Nat) (dk : Array UInt8), w' = (putRow (fun (b : UInt8) => Value.int .u8 (b.toNat : Int)) w blk off dk).drewN n ∧ FmtInv d.size u 0 v' dk := Any.internal_strconv_formatBase10 Trym.lays285 blk off cap u d w hH hu hu64 hsz
def Trym.laysM246_ren : Go.Shelf.Ren := ⟨fun | 246 => 50 | 283 => 51 | 284 => 52 | 285 => 53 | 286 => 54 | 129 => 56 | 317 => 55 | 318 => 57 | 319 => 58 | 320 => 59 | 337 => 60 | 338 => 61 | n => n, fun | 2 => 2 | 3 => 3 | 9 => 9 | 4 => 4 | 171 => 67 | 0 => 0 | 53 => 68 | 37 => 43 | 5 => 5 | 173 => 71 | 212 => 74 | 51 => 75 | 20 => 20 | 213 => 76 | 46 => 77 | 232 => 80 | 233 => 81 | n => n, fun | 17 => 1 | 18 => 2 | 19 => 3 | n => n⟩
theorem Trym.laysM246 : Go.Proofs.LaysM.n246 Trym.prog Trym.laysM246_ren := {
  mixed := by kernel_rfl
  f129 := Trym.func56.trans (congrArg some (by kernel_rfl))
  f246 := Trym.func50.trans (congrArg some (by kernel_rfl))
  f283 := Trym.func51.trans (congrArg some (by kernel_rfl))
  f284 := Trym.func52.trans (congrArg some (by kernel_rfl))
  f285 := Trym.func53.trans (congrArg some (by kernel_rfl))
  f286 := Trym.func54.trans (congrArg some (by kernel_rfl))
  f317 := Trym.func55.trans (congrArg some (by kernel_rfl))
  f318 := Trym.func57.trans (congrArg some (by kernel_rfl))
  f319 := Trym.func58.trans (congrArg some (by kernel_rfl))
  f320 := Trym.func59.trans (congrArg some (by kernel_rfl))
  f337 := Trym.func60.trans (congrArg some (by kernel_rfl))
  f338 := Trym.func61.trans (congrArg some (by kernel_rfl))
  t0 := Trym.underlying0
  a0 := Trym.isAgg0
  z0 := Trym.sizeOf0
  v0 := Trym.zeroValue0
  t2 := Trym.underlying2
  a2 := Trym.isAgg2
  z2 := Trym.sizeOf2
  v2 := Trym.zeroValue2
  t3 := Trym.underlying3
  a3 := Trym.isAgg3
  z3 := Trym.sizeOf3
  v3 := Trym.zeroValue3
  t4 := Trym.underlying4
  a4 := Trym.isAgg4
  z4 := Trym.sizeOf4
  v4 := Trym.zeroValue4
  t5 := Trym.underlying5
  a5 := Trym.isAgg5
  z5 := Trym.sizeOf5
  v5 := Trym.zeroValue5
  t9 := Trym.underlying9
  a9 := Trym.isAgg9
  z9 := Trym.sizeOf9
  v9 := Trym.zeroValue9
  t20 := Trym.underlying20
  a20 := Trym.isAgg20
  z20 := Trym.sizeOf20
  v20 := Trym.zeroValue20
  t37 := Trym.underlying43
  a37 := Trym.isAgg43
  z37 := Trym.sizeOf43
  v37 := Trym.zeroValue43
  t46 := Trym.underlying77
  a46 := Trym.isAgg77
  z46 := Trym.sizeOf77
  v46 := Trym.zeroValue77
  t51 := Trym.underlying75
  a51 := Trym.isAgg75
  z51 := Trym.sizeOf75
  v51 := Trym.zeroValue75
  t53 := Trym.underlying68
  a53 := Trym.isAgg68
  z53 := Trym.sizeOf68
  v53 := Trym.zeroValue68
  t171 := Trym.underlying67
  a171 := Trym.isAgg67
  z171 := Trym.sizeOf67
  v171 := Trym.zeroValue67
  t173 := Trym.underlying71
  a173 := Trym.isAgg71
  z173 := Trym.sizeOf71
  v173 := Trym.zeroValue71
  t212 := Trym.underlying74
  a212 := Trym.isAgg74
  z212 := Trym.sizeOf74
  v212 := Trym.zeroValue74
  t213 := Trym.underlying76
  a213 := Trym.isAgg76
  z213 := Trym.sizeOf76
  t232 := Trym.underlying80
  a232 := Trym.isAgg80
  z232 := Trym.sizeOf80
  v232 := Trym.zeroValue80
  t233 := Trym.underlying81
  a233 := Trym.isAgg81
  z233 := Trym.sizeOf81
  v233 := Trym.zeroValue81
  g17 := by kernel_rfl
  g18 := by kernel_rfl
  g19 := by kernel_rfl
  i0 := by kernel_rfl
  i2 := by kernel_rfl
  i3 := by kernel_rfl
  i4 := by kernel_rfl
  i5 := by kernel_rfl
  i9 := by kernel_rfl
  i20 := by kernel_rfl
  i37 := by kernel_rfl
  i46 := by kernel_rfl
  i51 := by kernel_rfl
  i53 := by kernel_rfl
  i171 := by kernel_rfl
  i173 := by kernel_rfl
  i212 := by kernel_rfl
  i232 := by kernel_rfl
  i233 := by kernel_rfl
  m17 := by kernel_rfl
  m18 := by kernel_rfl
  m19 := by kernel_rfl }
open Go.RowKit Go.Sort Go.Lib in
/-- internal/strconv.FormatInt: "FormatInt returns the string representation of i in the given base": AT BASE 10: i's decimal numeral, for every int64. The world behind the call: the world before it, new blocks behind the heap, draws. (LAID: no walk: one application.) -/
theorem Trym.internal_strconv_FormatInt_10 (n : Int) (h0 : -9223372036854775808 ≤ n) (h1 : n ≤ 9223372036854775807) (w : World) (htab : Lib.TabIs Trym.prog w "internal/strconv.uint64pow10" .u64 Lib.pow10Tab) :
    Calls Trym.prog 50 #[.int .i64 n, .int .i64 10] w fun e w' => e = .returned (.string ⟨(Lib.itoa n).toArray⟩) ∧ ∃ k os, w' = grow (w.drewN k) os := Any.internal_strconv_FormatInt_10 Trym.laysM246 n h0 h1 w htab
def Trym.lays246_ren : Go.Shelf.Ren := ⟨fun | 246 => 50 | 283 => 51 | 284 => 52 | 285 => 53 | 286 => 54 | 129 => 56 | 317 => 55 | 318 => 57 | 319 => 58 | 320 => 59 | 337 => 60 | 338 => 61 | n => n, fun | 2 => 2 | 3 => 3 | 9 => 9 | 4 => 4 | 171 => 67 | 0 => 0 | 53 => 68 | 37 => 43 | 5 => 5 | 173 => 71 | 212 => 74 | 51 => 75 | 20 => 20 | 213 => 76 | 46 => 77 | 232 => 80 | 233 => 81 | n => n, fun | 17 => 1 | 18 => 2 | 19 => 3 | n => n⟩
theorem Trym.lays246 : Go.Proofs.Lays.n246 Trym.prog Trym.lays246_ren := {
  mixed := by kernel_rfl
  f129 := Trym.func56.trans (congrArg some (by kernel_rfl))
  f246 := Trym.func50.trans (congrArg some (by kernel_rfl))
  f283 := Trym.func51.trans (congrArg some (by kernel_rfl))
  f284 := Trym.func52.trans (congrArg some (by kernel_rfl))
  f285 := Trym.func53.trans (congrArg some (by kernel_rfl))
  f286 := Trym.func54.trans (congrArg some (by kernel_rfl))
  f317 := Trym.func55.trans (congrArg some (by kernel_rfl))
  f318 := Trym.func57.trans (congrArg some (by kernel_rfl))
  f319 := Trym.func58.trans (congrArg some (by kernel_rfl))
  f320 := Trym.func59.trans (congrArg some (by kernel_rfl))
  f337 := Trym.func60.trans (congrArg some (by kernel_rfl))
  f338 := Trym.func61.trans (congrArg some (by kernel_rfl))
  t0 := Trym.underlying0
  a0 := Trym.isAgg0
  z0 := Trym.sizeOf0
  v0 := Trym.zeroValue0
  t2 := Trym.underlying2
  a2 := Trym.isAgg2
  z2 := Trym.sizeOf2
  v2 := Trym.zeroValue2
  t3 := Trym.underlying3
  a3 := Trym.isAgg3
  z3 := Trym.sizeOf3
  v3 := Trym.zeroValue3
  t4 := Trym.underlying4
  a4 := Trym.isAgg4
  z4 := Trym.sizeOf4
  v4 := Trym.zeroValue4
  t5 := Trym.underlying5
  a5 := Trym.isAgg5
  z5 := Trym.sizeOf5
  v5 := Trym.zeroValue5
  t9 := Trym.underlying9
  a9 := Trym.isAgg9
  z9 := Trym.sizeOf9
  v9 := Trym.zeroValue9
  t20 := Trym.underlying20
  a20 := Trym.isAgg20
  z20 := Trym.sizeOf20
  v20 := Trym.zeroValue20
  t37 := Trym.underlying43
  a37 := Trym.isAgg43
  z37 := Trym.sizeOf43
  v37 := Trym.zeroValue43
  t46 := Trym.underlying77
  a46 := Trym.isAgg77
  z46 := Trym.sizeOf77
  v46 := Trym.zeroValue77
  t51 := Trym.underlying75
  a51 := Trym.isAgg75
  z51 := Trym.sizeOf75
  v51 := Trym.zeroValue75
  t53 := Trym.underlying68
  a53 := Trym.isAgg68
  z53 := Trym.sizeOf68
  v53 := Trym.zeroValue68
  t171 := Trym.underlying67
  a171 := Trym.isAgg67
  z171 := Trym.sizeOf67
  v171 := Trym.zeroValue67
  t173 := Trym.underlying71
  a173 := Trym.isAgg71
  z173 := Trym.sizeOf71
  v173 := Trym.zeroValue71
  t212 := Trym.underlying74
  a212 := Trym.isAgg74
  z212 := Trym.sizeOf74
  v212 := Trym.zeroValue74
  t213 := Trym.underlying76
  a213 := Trym.isAgg76
  z213 := Trym.sizeOf76
  t232 := Trym.underlying80
  a232 := Trym.isAgg80
  z232 := Trym.sizeOf80
  v232 := Trym.zeroValue80
  t233 := Trym.underlying81
  a233 := Trym.isAgg81
  z233 := Trym.sizeOf81
  v233 := Trym.zeroValue81
  g17 := by kernel_rfl
  g18 := by kernel_rfl
  g19 := by kernel_rfl }
open Go.RowKit Go.Sort Go.Lib in
/-- THE ROAD WITHOUT THE TABLE: 0 <= i < 100: two constants are read, nothing is laid: no premise on the world, and the world is as it was. (LAID: no walk: one application.) -/
theorem Trym.internal_strconv_FormatInt_10_small (i : Nat) (hi : i < 100) (w : World) :
    Calls Trym.prog 50 #[.int .i64 i, .int .i64 10] w fun e w' => e = .returned (.string ⟨(Lib.decDigits i).toArray⟩) ∧ w' = w := Any.internal_strconv_FormatInt_10_small Trym.lays246 i hi w
def Trym.laysM243_ren : Go.Shelf.Ren := ⟨fun | 243 => 48 | 246 => 50 | 283 => 51 | 284 => 52 | 285 => 53 | 286 => 54 | 129 => 56 | 317 => 55 | 318 => 57 | 319 => 58 | 320 => 59 | 337 => 60 | 338 => 61 | n => n, fun | 3 => 3 | 9 => 9 | 2 => 2 | 4 => 4 | 171 => 67 | 0 => 0 | 53 => 68 | 37 => 43 | 5 => 5 | 173 => 71 | 212 => 74 | 51 => 75 | 20 => 20 | 213 => 76 | 46 => 77 | 232 => 80 | 233 => 81 | n => n, fun | 17 => 1 | 18 => 2 | 19 => 3 | n => n⟩
theorem Trym.laysM243 : Go.Proofs.LaysM.n243 Trym.prog Trym.laysM243_ren := {
  mixed := by kernel_rfl
  f129 := Trym.func56.trans (congrArg some (by kernel_rfl))
  f243 := Trym.func48.trans (congrArg some (by kernel_rfl))
  f246 := Trym.func50.trans (congrArg some (by kernel_rfl))
  f283 := Trym.func51.trans (congrArg some (by kernel_rfl))
  f284 := Trym.func52.trans (congrArg some (by kernel_rfl))
  f285 := Trym.func53.trans (congrArg some (by kernel_rfl))
  f286 := Trym.func54.trans (congrArg some (by kernel_rfl))
  f317 := Trym.func55.trans (congrArg some (by kernel_rfl))
  f318 := Trym.func57.trans (congrArg some (by kernel_rfl))
  f319 := Trym.func58.trans (congrArg some (by kernel_rfl))
  f320 := Trym.func59.trans (congrArg some (by kernel_rfl))
  f337 := Trym.func60.trans (congrArg some (by kernel_rfl))
  f338 := Trym.func61.trans (congrArg some (by kernel_rfl))
  t0 := Trym.underlying0
  a0 := Trym.isAgg0
  z0 := Trym.sizeOf0
  v0 := Trym.zeroValue0
  t2 := Trym.underlying2
  a2 := Trym.isAgg2
  z2 := Trym.sizeOf2
  v2 := Trym.zeroValue2
  t3 := Trym.underlying3
  a3 := Trym.isAgg3
  z3 := Trym.sizeOf3
  v3 := Trym.zeroValue3
  t4 := Trym.underlying4
  a4 := Trym.isAgg4
  z4 := Trym.sizeOf4
  v4 := Trym.zeroValue4
  t5 := Trym.underlying5
  a5 := Trym.isAgg5
  z5 := Trym.sizeOf5
  v5 := Trym.zeroValue5
  t9 := Trym.underlying9
  a9 := Trym.isAgg9
  z9 := Trym.sizeOf9
  v9 := Trym.zeroValue9
  t20 := Trym.underlying20
  a20 := Trym.isAgg20
  z20 := Trym.sizeOf20
  v20 := Trym.zeroValue20
  t37 := Trym.underlying43
  a37 := Trym.isAgg43
  z37 := Trym.sizeOf43
  v37 := Trym.zeroValue43
  t46 := Trym.underlying77
  a46 := Trym.isAgg77
  z46 := Trym.sizeOf77
  v46 := Trym.zeroValue77
  t51 := Trym.underlying75
  a51 := Trym.isAgg75
  z51 := Trym.sizeOf75
  v51 := Trym.zeroValue75
  t53 := Trym.underlying68
  a53 := Trym.isAgg68
  z53 := Trym.sizeOf68
  v53 := Trym.zeroValue68
  t171 := Trym.underlying67
  a171 := Trym.isAgg67
  z171 := Trym.sizeOf67
  v171 := Trym.zeroValue67
  t173 := Trym.underlying71
  a173 := Trym.isAgg71
  z173 := Trym.sizeOf71
  v173 := Trym.zeroValue71
  t212 := Trym.underlying74
  a212 := Trym.isAgg74
  z212 := Trym.sizeOf74
  v212 := Trym.zeroValue74
  t213 := Trym.underlying76
  a213 := Trym.isAgg76
  z213 := Trym.sizeOf76
  t232 := Trym.underlying80
  a232 := Trym.isAgg80
  z232 := Trym.sizeOf80
  v232 := Trym.zeroValue80
  t233 := Trym.underlying81
  a233 := Trym.isAgg81
  z233 := Trym.sizeOf81
  v233 := Trym.zeroValue81
  g17 := by kernel_rfl
  g18 := by kernel_rfl
  g19 := by kernel_rfl
  i0 := by kernel_rfl
  i2 := by kernel_rfl
  i3 := by kernel_rfl
  i4 := by kernel_rfl
  i5 := by kernel_rfl
  i9 := by kernel_rfl
  i20 := by kernel_rfl
  i37 := by kernel_rfl
  i46 := by kernel_rfl
  i51 := by kernel_rfl
  i53 := by kernel_rfl
  i171 := by kernel_rfl
  i173 := by kernel_rfl
  i212 := by kernel_rfl
  i232 := by kernel_rfl
  i233 := by kernel_rfl
  m17 := by kernel_rfl
  m18 := by kernel_rfl
  m19 := by kernel_rfl }
open Go.RowKit Go.Sort Go.Lib in
/-- internal/strconv.Itoa: "Itoa is equivalent to FormatInt(int64(i), 10).": i's decimal numeral, for every int. (LAID: no walk: one application.) -/
theorem Trym.internal_strconv_Itoa (n : Int) (h0 : -9223372036854775808 ≤ n) (h1 : n ≤ 9223372036854775807) (w : World) (htab : Lib.TabIs Trym.prog w "internal/strconv.uint64pow10" .u64 Lib.pow10Tab) :
    Calls Trym.prog 48 #[.int .i64 n] w fun e w' => e = .returned (.string ⟨(Lib.itoa n).toArray⟩) ∧ ∃ k os, w' = grow (w.drewN k) os := Any.internal_strconv_Itoa Trym.laysM243 n h0 h1 w htab
def Trym.lays243_ren : Go.Shelf.Ren := ⟨fun | 243 => 48 | 246 => 50 | 283 => 51 | 284 => 52 | 285 => 53 | 286 => 54 | 129 => 56 | 317 => 55 | 318 => 57 | 319 => 58 | 320 => 59 | 337 => 60 | 338 => 61 | n => n, fun | 3 => 3 | 9 => 9 | 2 => 2 | 4 => 4 | 171 => 67 | 0 => 0 | 53 => 68 | 37 => 43 | 5 => 5 | 173 => 71 | 212 => 74 | 51 => 75 | 20 => 20 | 213 => 76 | 46 => 77 | 232 => 80 | 233 => 81 | n => n, fun | 17 => 1 | 18 => 2 | 19 => 3 | n => n⟩
theorem Trym.lays243 : Go.Proofs.Lays.n243 Trym.prog Trym.lays243_ren := {
  mixed := by kernel_rfl
  f129 := Trym.func56.trans (congrArg some (by kernel_rfl))
  f243 := Trym.func48.trans (congrArg some (by kernel_rfl))
  f246 := Trym.func50.trans (congrArg some (by kernel_rfl))
  f283 := Trym.func51.trans (congrArg some (by kernel_rfl))
  f284 := Trym.func52.trans (congrArg some (by kernel_rfl))
  f285 := Trym.func53.trans (congrArg some (by kernel_rfl))
  f286 := Trym.func54.trans (congrArg some (by kernel_rfl))
  f317 := Trym.func55.trans (congrArg some (by kernel_rfl))
  f318 := Trym.func57.trans (congrArg some (by kernel_rfl))
  f319 := Trym.func58.trans (congrArg some (by kernel_rfl))
  f320 := Trym.func59.trans (congrArg some (by kernel_rfl))
  f337 := Trym.func60.trans (congrArg some (by kernel_rfl))
  f338 := Trym.func61.trans (congrArg some (by kernel_rfl))
  t0 := Trym.underlying0
  a0 := Trym.isAgg0
  z0 := Trym.sizeOf0
  v0 := Trym.zeroValue0
  t2 := Trym.underlying2
  a2 := Trym.isAgg2
  z2 := Trym.sizeOf2
  v2 := Trym.zeroValue2
  t3 := Trym.underlying3
  a3 := Trym.isAgg3
  z3 := Trym.sizeOf3
  v3 := Trym.zeroValue3
  t4 := Trym.underlying4
  a4 := Trym.isAgg4
  z4 := Trym.sizeOf4
  v4 := Trym.zeroValue4
  t5 := Trym.underlying5
  a5 := Trym.isAgg5
  z5 := Trym.sizeOf5
  v5 := Trym.zeroValue5
  t9 := Trym.underlying9
  a9 := Trym.isAgg9
  z9 := Trym.sizeOf9
  v9 := Trym.zeroValue9
  t20 := Trym.underlying20
  a20 := Trym.isAgg20
  z20 := Trym.sizeOf20
  v20 := Trym.zeroValue20
  t37 := Trym.underlying43
  a37 := Trym.isAgg43
  z37 := Trym.sizeOf43
  v37 := Trym.zeroValue43
  t46 := Trym.underlying77
  a46 := Trym.isAgg77
  z46 := Trym.sizeOf77
  v46 := Trym.zeroValue77
  t51 := Trym.underlying75
  a51 := Trym.isAgg75
  z51 := Trym.sizeOf75
  v51 := Trym.zeroValue75
  t53 := Trym.underlying68
  a53 := Trym.isAgg68
  z53 := Trym.sizeOf68
  v53 := Trym.zeroValue68
  t171 := Trym.underlying67
  a171 := Trym.isAgg67
  z171 := Trym.sizeOf67
  v171 := Trym.zeroValue67
  t173 := Trym.underlying71
  a173 := Trym.isAgg71
  z173 := Trym.sizeOf71
  v173 := Trym.zeroValue71
  t212 := Trym.underlying74
  a212 := Trym.isAgg74
  z212 := Trym.sizeOf74
  v212 := Trym.zeroValue74
  t213 := Trym.underlying76
  a213 := Trym.isAgg76
  z213 := Trym.sizeOf76
  t232 := Trym.underlying80
  a232 := Trym.isAgg80
  z232 := Trym.sizeOf80
  v232 := Trym.zeroValue80
  t233 := Trym.underlying81
  a233 := Trym.isAgg81
  z233 := Trym.sizeOf81
  v233 := Trym.zeroValue81
  g17 := by kernel_rfl
  g18 := by kernel_rfl
  g19 := by kernel_rfl }
open Go.RowKit Go.Sort Go.Lib in
/-- THE ROAD WITHOUT THE TABLE: 0 <= i < 100. (LAID: no walk: one application.) -/
theorem Trym.internal_strconv_Itoa_small (i : Nat) (hi : i < 100) (w : World) :
    Calls Trym.prog 48 #[.int .i64 i] w fun e w' => e = .returned (.string ⟨(Lib.decDigits i).toArray⟩) ∧ w' = w := Any.internal_strconv_Itoa_small Trym.lays243 i hi w
def Trym.laysM171_ren : Go.Shelf.Ren := ⟨fun | 171 => 40 | 243 => 48 | 246 => 50 | 283 => 51 | 284 => 52 | 285 => 53 | 286 => 54 | 129 => 56 | 317 => 55 | 318 => 57 | 319 => 58 | 320 => 59 | 337 => 60 | 338 => 61 | n => n, fun | 3 => 3 | 9 => 9 | 2 => 2 | 4 => 4 | 171 => 67 | 0 => 0 | 53 => 68 | 37 => 43 | 5 => 5 | 173 => 71 | 212 => 74 | 51 => 75 | 20 => 20 | 213 => 76 | 46 => 77 | 232 => 80 | 233 => 81 | n => n, fun | 17 => 1 | 18 => 2 | 19 => 3 | n => n⟩
theorem Trym.laysM171 : Go.Proofs.LaysM.n171 Trym.prog Trym.laysM171_ren := {
  mixed := by kernel_rfl
  f129 := Trym.func56.trans (congrArg some (by kernel_rfl))
  f171 := Trym.func40.trans (congrArg some (by kernel_rfl))
  f243 := Trym.func48.trans (congrArg some (by kernel_rfl))
  f246 := Trym.func50.trans (congrArg some (by kernel_rfl))
  f283 := Trym.func51.trans (congrArg some (by kernel_rfl))
  f284 := Trym.func52.trans (congrArg some (by kernel_rfl))
  f285 := Trym.func53.trans (congrArg some (by kernel_rfl))
  f286 := Trym.func54.trans (congrArg some (by kernel_rfl))
  f317 := Trym.func55.trans (congrArg some (by kernel_rfl))
  f318 := Trym.func57.trans (congrArg some (by kernel_rfl))
  f319 := Trym.func58.trans (congrArg some (by kernel_rfl))
  f320 := Trym.func59.trans (congrArg some (by kernel_rfl))
  f337 := Trym.func60.trans (congrArg some (by kernel_rfl))
  f338 := Trym.func61.trans (congrArg some (by kernel_rfl))
  t0 := Trym.underlying0
  a0 := Trym.isAgg0
  z0 := Trym.sizeOf0
  v0 := Trym.zeroValue0
  t2 := Trym.underlying2
  a2 := Trym.isAgg2
  z2 := Trym.sizeOf2
  v2 := Trym.zeroValue2
  t3 := Trym.underlying3
  a3 := Trym.isAgg3
  z3 := Trym.sizeOf3
  v3 := Trym.zeroValue3
  t4 := Trym.underlying4
  a4 := Trym.isAgg4
  z4 := Trym.sizeOf4
  v4 := Trym.zeroValue4
  t5 := Trym.underlying5
  a5 := Trym.isAgg5
  z5 := Trym.sizeOf5
  v5 := Trym.zeroValue5
  t9 := Trym.underlying9
  a9 := Trym.isAgg9
  z9 := Trym.sizeOf9
  v9 := Trym.zeroValue9
  t20 := Trym.underlying20
  a20 := Trym.isAgg20
  z20 := Trym.sizeOf20
  v20 := Trym.zeroValue20
  t37 := Trym.underlying43
  a37 := Trym.isAgg43
  z37 := Trym.sizeOf43
  v37 := Trym.zeroValue43
  t46 := Trym.underlying77
  a46 := Trym.isAgg77
  z46 := Trym.sizeOf77
  v46 := Trym.zeroValue77
  t51 := Trym.underlying75
  a51 := Trym.isAgg75
  z51 := Trym.sizeOf75
  v51 := Trym.zeroValue75
  t53 := Trym.underlying68
  a53 := Trym.isAgg68
  z53 := Trym.sizeOf68
  v53 := Trym.zeroValue68
  t171 := Trym.underlying67
  a171 := Trym.isAgg67
  z171 := Trym.sizeOf67
  v171 := Trym.zeroValue67
  t173 := Trym.underlying71
  a173 := Trym.isAgg71
  z173 := Trym.sizeOf71
  v173 := Trym.zeroValue71
  t212 := Trym.underlying74
  a212 := Trym.isAgg74
  z212 := Trym.sizeOf74
  v212 := Trym.zeroValue74
  t213 := Trym.underlying76
  a213 := Trym.isAgg76
  z213 := Trym.sizeOf76
  t232 := Trym.underlying80
  a232 := Trym.isAgg80
  z232 := Trym.sizeOf80
  v232 := Trym.zeroValue80
  t233 := Trym.underlying81
  a233 := Trym.isAgg81
  z233 := Trym.sizeOf81
  v233 := Trym.zeroValue81
  g17 := by kernel_rfl
  g18 := by kernel_rfl
  g19 := by kernel_rfl
  i0 := by kernel_rfl
  i2 := by kernel_rfl
  i3 := by kernel_rfl
  i4 := by kernel_rfl
  i5 := by kernel_rfl
  i9 := by kernel_rfl
  i20 := by kernel_rfl
  i37 := by kernel_rfl
  i46 := by kernel_rfl
  i51 := by kernel_rfl
  i53 := by kernel_rfl
  i171 := by kernel_rfl
  i173 := by kernel_rfl
  i212 := by kernel_rfl
  i232 := by kernel_rfl
  i233 := by kernel_rfl
  m17 := by kernel_rfl
  m18 := by kernel_rfl
  m19 := by kernel_rfl }
open Go.RowKit Go.Sort Go.Lib in
/-- strconv.Itoa: "Itoa is equivalent to FormatInt(int64(i), 10).": i's DECIMAL NUMERAL ('Lib.itoa': a '-' where i is negative, then the digits), FOR EVERY int. The world behind the call: the world before it, new blocks behind the heap (the library's 'var a [24]byte'), draws. (LAID: no walk: one application.) -/
theorem Trym.strconv_Itoa (n : Int) (h0 : -9223372036854775808 ≤ n) (h1 : n ≤ 9223372036854775807) (w : World) (htab : Lib.TabIs Trym.prog w "internal/strconv.uint64pow10" .u64 Lib.pow10Tab) :
    Calls Trym.prog 40 #[.int .i64 n] w fun e w' => e = .returned (.string ⟨(Lib.itoa n).toArray⟩) ∧ ∃ k os, w' = grow (w.drewN k) os := Any.strconv_Itoa Trym.laysM171 n h0 h1 w htab
def Trym.lays171_ren : Go.Shelf.Ren := ⟨fun | 171 => 40 | 243 => 48 | 246 => 50 | 283 => 51 | 284 => 52 | 285 => 53 | 286 => 54 | 129 => 56 | 317 => 55 | 318 => 57 | 319 => 58 | 320 => 59 | 337 => 60 | 338 => 61 | n => n, fun | 3 => 3 | 9 => 9 | 2 => 2 | 4 => 4 | 171 => 67 | 0 => 0 | 53 => 68 | 37 => 43 | 5 => 5 | 173 => 71 | 212 => 74 | 51 => 75 | 20 => 20 | 213 => 76 | 46 => 77 | 232 => 80 | 233 => 81 | n => n, fun | 17 => 1 | 18 => 2 | 19 => 3 | n => n⟩
theorem Trym.lays171 : Go.Proofs.Lays.n171 Trym.prog Trym.lays171_ren := {
  mixed := by kernel_rfl
  f129 := Trym.func56.trans (congrArg some (by kernel_rfl))
  f171 := Trym.func40.trans (congrArg some (by kernel_rfl))
  f243 := Trym.func48.trans (congrArg some (by kernel_rfl))
  f246 := Trym.func50.trans (congrArg some (by kernel_rfl))
  f283 := Trym.func51.trans (congrArg some (by kernel_rfl))
  f284 := Trym.func52.trans (congrArg some (by kernel_rfl))
  f285 := Trym.func53.trans (congrArg some (by kernel_rfl))
  f286 := Trym.func54.trans (congrArg some (by kernel_rfl))
  f317 := Trym.func55.trans (congrArg some (by kernel_rfl))
  f318 := Trym.func57.trans (congrArg some (by kernel_rfl))
  f319 := Trym.func58.trans (congrArg some (by kernel_rfl))
  f320 := Trym.func59.trans (congrArg some (by kernel_rfl))
  f337 := Trym.func60.trans (congrArg some (by kernel_rfl))
  f338 := Trym.func61.trans (congrArg some (by kernel_rfl))
  t0 := Trym.underlying0
  a0 := Trym.isAgg0
  z0 := Trym.sizeOf0
  v0 := Trym.zeroValue0
  t2 := Trym.underlying2
  a2 := Trym.isAgg2
  z2 := Trym.sizeOf2
  v2 := Trym.zeroValue2
  t3 := Trym.underlying3
  a3 := Trym.isAgg3
  z3 := Trym.sizeOf3
  v3 := Trym.zeroValue3
  t4 := Trym.underlying4
  a4 := Trym.isAgg4
  z4 := Trym.sizeOf4
  v4 := Trym.zeroValue4
  t5 := Trym.underlying5
  a5 := Trym.isAgg5
  z5 := Trym.sizeOf5
  v5 := Trym.zeroValue5
  t9 := Trym.underlying9
  a9 := Trym.isAgg9
  z9 := Trym.sizeOf9
  v9 := Trym.zeroValue9
  t20 := Trym.underlying20
  a20 := Trym.isAgg20
  z20 := Trym.sizeOf20
  v20 := Trym.zeroValue20
  t37 := Trym.underlying43
  a37 := Trym.isAgg43
  z37 := Trym.sizeOf43
  v37 := Trym.zeroValue43
  t46 := Trym.underlying77
  a46 := Trym.isAgg77
  z46 := Trym.sizeOf77
  v46 := Trym.zeroValue77
  t51 := Trym.underlying75
  a51 := Trym.isAgg75
  z51 := Trym.sizeOf75
  v51 := Trym.zeroValue75
  t53 := Trym.underlying68
  a53 := Trym.isAgg68
  z53 := Trym.sizeOf68
  v53 := Trym.zeroValue68
  t171 := Trym.underlying67
  a171 := Trym.isAgg67
  z171 := Trym.sizeOf67
  v171 := Trym.zeroValue67
  t173 := Trym.underlying71
  a173 := Trym.isAgg71
  z173 := Trym.sizeOf71
  v173 := Trym.zeroValue71
  t212 := Trym.underlying74
  a212 := Trym.isAgg74
  z212 := Trym.sizeOf74
  v212 := Trym.zeroValue74
  t213 := Trym.underlying76
  a213 := Trym.isAgg76
  z213 := Trym.sizeOf76
  t232 := Trym.underlying80
  a232 := Trym.isAgg80
  z232 := Trym.sizeOf80
  v232 := Trym.zeroValue80
  t233 := Trym.underlying81
  a233 := Trym.isAgg81
  z233 := Trym.sizeOf81
  v233 := Trym.zeroValue81
  g17 := by kernel_rfl
  g18 := by kernel_rfl
  g19 := by kernel_rfl }
open Go.RowKit Go.Sort Go.Lib in
/-- THE ROAD WITHOUT THE TABLE: 0 <= i < 100: NO PREMISE ON THE WORLD, AND THE WORLD IS AS IT WAS: a row that keeps its argument in that range need list no table ('laid = []'). (LAID: no walk: one application.) -/
theorem Trym.strconv_Itoa_small (i : Nat) (hi : i < 100) (w : World) :
    Calls Trym.prog 40 #[.int .i64 i] w fun e w' => e = .returned (.string ⟨(Lib.decDigits i).toArray⟩) ∧ w' = w := Any.strconv_Itoa_small Trym.lays171 i hi w
def Trym.lays217_ren : Go.Shelf.Ren := ⟨fun | 217 => 46 | 266 => 49 | n => n, fun | 9 => 9 | 5 => 5 | 3 => 3 | n => n, fun | n => n⟩
theorem Trym.lays217 : Go.Proofs.Lays.n217 Trym.prog Trym.lays217_ren := {
  mixed := by kernel_rfl
  f217 := Trym.func46.trans (congrArg some (by kernel_rfl))
  f266 := Trym.func49.trans (congrArg some (by kernel_rfl))
  t3 := Trym.underlying3
  a3 := Trym.isAgg3
  z3 := Trym.sizeOf3
  v3 := Trym.zeroValue3
  t5 := Trym.underlying5
  a5 := Trym.isAgg5
  z5 := Trym.sizeOf5
  v5 := Trym.zeroValue5
  t9 := Trym.underlying9
  a9 := Trym.isAgg9
  z9 := Trym.sizeOf9
  v9 := Trym.zeroValue9 }
open Go.RowKit Go.Lib in
/-- internal/stringslite.IndexByte (what strings.IndexByte calls): IT RETURNS 'Lib.indexByte s c'; the world is as it was. (LAID: no walk: one application.) -/
theorem Trym.stringslite_IndexByte (s : ByteArray) (c : Int) (w : World) :
    Calls Trym.prog 46 #[.string s, .int .u8 c] w fun e w' => e = .returned (.int .i64 (Lib.indexByte s.data.toList c.toNat.toUInt8)) ∧ w' = w := Any.stringslite_IndexByte Trym.lays217 s c w
end Go.Proofs
