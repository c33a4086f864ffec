/-
  Part 5 of what the statement leans on: Shelf, Tr1, Tr2, SxT, Tr3, SxV, Tl, Pl1, Tr5, Tr6, Pl2, Rf1, Rf2, Rf3, Rng, Ln.
-/
import Derived.Test.YtcemhpdhcmlhlaaGreatDoorPk1
import Derived.Test.YtcemhpdhcmlhlaaGreatDoorPk3
import Derived.Test.YtcemhpdhcmlhlaaGreatDoorPk4
import Derived.Shelf.Strings.Builder1
import Derived.Shelf.Small.Bits
import Derived.Shelf.Small.Strs
import Derived.Shelf.Strings.BuilderF
import Derived.Shelf.Strings.BuilderK
import Derived.Shelf.Utf8.RuneCount
import Derived.Shelf.Strconv.Atoi
import Derived.Shelf.Strconv.Itoa0
import Derived.Shelf.Strconv.Itoa1
import Derived.Shelf.LaysM
import Derived.Shelf.Strconv.Itoa2
import Derived.Shelf.Strconv.Itoa3
import Derived.Shelf.Strconv.AtoiErrFast
import Derived.Shelf.Strconv.ParseIntEmpty
import Derived.Shelf.Strconv.AtoiFail
import Derived.Shelf.Strconv.Clone
import Derived.Shelf.Strconv.SyntaxError
import Derived.Shelf.LaysC
import Derived.Shelf.Strconv.ToError
import Derived.Shelf.Strconv.Lower
import Derived.Shelf.Strconv.ParseUint10
import Derived.Shelf.Strconv.ParseUint10Empty
import Derived.Shelf.Strconv.ParseUint10Any
import Derived.Shelf.Strconv.ParseInt10
import Derived.Shelf.Strconv.AtoiLong
import Derived.Shelf.Strconv.AtoiInnerAll
import Derived.Shelf.Strconv.RangeError
import Derived.Shelf.Strconv.ToErrorRange
import Derived.Shelf.Strconv.AtoiAll
import Derived.Shelf.Strings.Search1
import Derived.Shelf.Strings.Search2
import Derived.Shelf.Strings.Search3
import Derived.Shelf.Strings.Count
import Derived.Shelf.Strings.Shaped
import Derived.Shelf.Strings.Prefix
import Derived.Shelf.Strings.Split
import Derived.Shelf.Strings.Fields
import Derived.Shelf.Strings.SplitShaped
import Derived.Shelf.Unicode.Latin
import Derived.Shelf.Unicode.Decode
import Derived.Shelf.Strings.RuneCount
import Derived.Shelf.Strings.Explode
import Derived.Shelf.Unicode.DecodeSlow
import Derived.Shelf.Unicode.DecodeAny
import Derived.Shelf.Unicode.Is16White
import Derived.Shelf.Unicode.IsSpaceAny
import Derived.Shelf.Unicode.Is16Any
import Derived.Shelf.Unicode.Is32Any
import Derived.Shelf.Unicode.ExclAny
import Derived.Ground.SlgnProg
import Derived.Shelf.SlicesE.Clone
import Derived.Test.YtcemhpdhcmlhlaaGreatDoorRows
import Derived.Lib.AppendIntMem
import Derived.Deep.RegionHeld3
import Derived.Lib.ItoaLen
import Derived.Lib.SplitLaws
import Derived.Lib.ItoaNum
import Derived.Lib.AtoiAll
import Derived.Lib.IndexLaws
import Derived.Lib.CountLaws
import Derived.Lib.SmallJoins
import Derived.Laws.ResultCell
import Derived.Laws.Rows
import Derived.Laws.IdiomStrings
import Derived.RangeFuncKeeps
import Derived.RangeFuncBound
import Derived.RangeFuncCalls
import Derived.RangeFuncLeaves
import Derived.RangeFuncNested
import Derived.Shelf.Abstract
import Derived.Shelf.RegionOpen
import Derived.WalkKit
import Derived.OwnWalkIn
import Derived.TacticsInMore
import Derived.LoopNIn
import Derived.LoopIn
import Derived.RegionIn
/-
  DERIVED: THE SHELF's CONTRACTS AT THIS DUMP, IN PLAIN WORDS (tools/lay-plain.mjs out of 'TryzShelf.lean', which tools/lay-shelf.mjs wrote): THE SAME DECLARATIONS UNDER THE SAME NAMES: 'import', 'namespace', 'open', 'def', 'theorem' AND NOTHING ELSE: no command of the shelf's: FOR A HAND-IN. Each laying: the table of numbers ('.._ren') and one theorem, a field a fact of the dump's own or the kernel's comparison; each contract: ONE APPLICATION.
-/
namespace Go.Proofs
open Go.Shelf
def Tryz.lays169_ren : Go.Shelf.Ren := ⟨fun | 169 => 15 | n => n, fun | 70 => 36 | 9 => 9 | 0 => 0 | 72 => 39 | 37 => 37 | 127 => 73 | 3 => 3 | 5 => 5 | n => n, fun | n => n⟩
theorem Tryz.lays169 : Go.Proofs.Lays.n169 Tryz.prog Tryz.lays169_ren := {
  mixed := by kernel_rfl
  f169 := Tryz.func15.trans (congrArg some (by kernel_rfl))
  t0 := Tryz.underlying0
  a0 := Tryz.isAgg0
  z0 := Tryz.sizeOf0
  v0 := Tryz.zeroValue0
  t3 := Tryz.underlying3
  a3 := Tryz.isAgg3
  z3 := Tryz.sizeOf3
  v3 := Tryz.zeroValue3
  t9 := Tryz.underlying9
  a9 := Tryz.isAgg9
  z9 := Tryz.sizeOf9
  v9 := Tryz.zeroValue9
  t37 := Tryz.underlying37
  a37 := Tryz.isAgg37
  z37 := Tryz.sizeOf37
  v37 := Tryz.zeroValue37
  t70 := Tryz.underlying36
  a70 := Tryz.isAgg36
  z70 := Tryz.sizeOf36
  v70 := Tryz.zeroValue36
  t72 := Tryz.underlying39
  a72 := Tryz.isAgg39
  z72 := Tryz.sizeOf39
  v72 := Tryz.zeroValue39
  t127 := Tryz.underlying73
  a127 := Tryz.isAgg73
  z127 := Tryz.sizeOf73
  v127 := Tryz.zeroValue73 }
theorem Tryz.Builder_Extra_169 : Builder.Extra Tryz.prog Tryz.lays169_ren := {
  sizeBuilder := by kernel_rfl
  liesBuilder := by kernel_rfl
  t5 := Tryz.underlying5
  a5 := Tryz.isAgg5
  z5 := Tryz.sizeOf5
  v5 := Tryz.zeroValue5
  infoByte := by kernel_rfl
  cellsByte := by kernel_rfl
  sizeByte := by kernel_rfl
  neB5 := by decide }
open Go.RowKit in
/-- (*strings.Builder).String: "String returns the accumulated string.": OF A BUILDER THAT HOLDS AT LEAST ONE BYTE. ✋ THE MODEL FREEZES THOSE BYTES IN THE BUFFER (unsafe.String): a later write INTO them ends the model's run without an answer; a later append BEHIND them goes on. The statement's order of evaluation is drawn: one draw. (LAID: no walk: one application.) -/
theorem Tryz.Builder_String (B b : Nat) (l : List UInt8) (w : World) (h : Lib.IsBuilder 39 5 B b (Lib.byteCells l) w) (h0 : l ≠ []) :
    Calls Tryz.prog 15 #[.pointer (some ⟨b, 0, none⟩)] w fun e w' => e = .returned (.string ⟨l.toArray⟩) ∧ Below B w w' := Any.Builder_String Tryz.lays169 Tryz.Builder_Extra_169 B b l w h h0
open Go.RowKit in
/-- (*strings.Builder).String OF A BUILDER THAT HOLDS NO BYTE: the empty string. (Its buffer is nil, or a row of which it has taken nothing yet; where that row has NO capacity the model lays one new block for unsafe.SliceData's 'some address'.) One draw. (LAID: no walk: one application.) -/
theorem Tryz.Builder_String_empty (B b : Nat) (w : World) (h : Lib.IsBuilder 39 5 B b [] w) (hBw : B ≤ w.heap.size) :
    Calls Tryz.prog 15 #[.pointer (some ⟨b, 0, none⟩)] w fun e w' => e = .returned (.string ⟨#[]⟩) ∧ Below B w w' := Any.Builder_String_empty Tryz.lays169 Tryz.Builder_Extra_169 B b w h hBw
open Go.RowKit in
/-- (*strings.Builder).String: "String returns the accumulated string.": WHATEVER THE BUILDER HOLDS. (LAID: no walk: one application.) -/
theorem Tryz.Builder_String_any (B b : Nat) (l : List UInt8) (w : World) (h : Lib.IsBuilder 39 5 B b (Lib.byteCells l) w) (hBw : B ≤ w.heap.size) :
    Calls Tryz.prog 15 #[.pointer (some ⟨b, 0, none⟩)] w fun e w' => e = .returned (.string ⟨l.toArray⟩) ∧ Below B w w' := Any.Builder_String_any Tryz.lays169 Tryz.Builder_Extra_169 B b l w h hBw
def Tryz.lays128_ren : Go.Shelf.Ren := ⟨fun | 128 => 341 | n => n, fun | 51 => 142 | 3 => 3 | 4 => 4 | 46 => 196 | 5 => 5 | 9 => 9 | n => n, fun | n => n⟩
theorem Tryz.lays128 : Go.Proofs.Lays.n128 Tryz.prog Tryz.lays128_ren := {
  mixed := by kernel_rfl
  f128 := Tryz.func341.trans (congrArg some (by kernel_rfl))
  t3 := Tryz.underlying3
  a3 := Tryz.isAgg3
  z3 := Tryz.sizeOf3
  v3 := Tryz.zeroValue3
  t4 := Tryz.underlying4
  a4 := Tryz.isAgg4
  z4 := Tryz.sizeOf4
  v4 := Tryz.zeroValue4
  t5 := Tryz.underlying5
  a5 := Tryz.isAgg5
  z5 := Tryz.sizeOf5
  v5 := Tryz.zeroValue5
  t9 := Tryz.underlying9
  a9 := Tryz.isAgg9
  z9 := Tryz.sizeOf9
  v9 := Tryz.zeroValue9
  t46 := Tryz.underlying196
  a46 := Tryz.isAgg196
  z46 := Tryz.sizeOf196
  v46 := Tryz.zeroValue196
  t51 := Tryz.underlying142
  a51 := Tryz.isAgg142
  z51 := Tryz.sizeOf142
  v51 := Tryz.zeroValue142 }
/-- bits.Len32: "Len32 returns the minimum number of bits required to represent x; the result is 0 for x == 0.": IT RETURNS 'Lib.bitLen x'; the world is as it was. ('h0', 'h1': x is a uint32.) (LAID: no walk: one application.) -/
theorem Tryz.bits_Len32 (x : Int) (w : World) (h0 : 0 ≤ x) (h1 : x ≤ 4294967295) :
    Calls Tryz.prog 341 #[.int .u32 x] w fun e w' => e = .returned (.int .i64 (Lib.bitLen x.toNat)) ∧ w' = w := Any.bits_Len32 Tryz.lays128 x w h0 h1
def Tryz.lays125_ren : Go.Shelf.Ren := ⟨fun | 125 => 328 | 128 => 341 | 129 => 149 | n => n, fun | 46 => 196 | 3 => 3 | 51 => 142 | 53 => 56 | 4 => 4 | 5 => 5 | 9 => 9 | n => n, fun | n => n⟩
theorem Tryz.lays125 : Go.Proofs.Lays.n125 Tryz.prog Tryz.lays125_ren := {
  mixed := by kernel_rfl
  f125 := Tryz.func328.trans (congrArg some (by kernel_rfl))
  f128 := Tryz.func341.trans (congrArg some (by kernel_rfl))
  f129 := Tryz.func149.trans (congrArg some (by kernel_rfl))
  t3 := Tryz.underlying3
  a3 := Tryz.isAgg3
  z3 := Tryz.sizeOf3
  v3 := Tryz.zeroValue3
  t4 := Tryz.underlying4
  a4 := Tryz.isAgg4
  z4 := Tryz.sizeOf4
  v4 := Tryz.zeroValue4
  t5 := Tryz.underlying5
  a5 := Tryz.isAgg5
  z5 := Tryz.sizeOf5
  v5 := Tryz.zeroValue5
  t9 := Tryz.underlying9
  a9 := Tryz.isAgg9
  z9 := Tryz.sizeOf9
  v9 := Tryz.zeroValue9
  t46 := Tryz.underlying196
  a46 := Tryz.isAgg196
  z46 := Tryz.sizeOf196
  v46 := Tryz.zeroValue196
  t51 := Tryz.underlying142
  a51 := Tryz.isAgg142
  z51 := Tryz.sizeOf142
  v51 := Tryz.zeroValue142
  t53 := Tryz.underlying56
  a53 := Tryz.isAgg56
  z53 := Tryz.sizeOf56
  v53 := Tryz.zeroValue56 }
/-- bits.Len: "Len returns the minimum number of bits required to represent x; the result is 0 for x == 0.": IT RETURNS 'Lib.bitLen x'; the world is as it was. (A uint has 64 bits in the model.) ITS CALLEE bits.Len64 IS MET BY ITS OWN CONTRACT OFF THE SHELF (lay that first). (LAID: no walk: one application.) -/
theorem Tryz.bits_Len (x : Int) (w : World) (h0 : 0 ≤ x) (h1 : x ≤ 18446744073709551615) :
    Calls Tryz.prog 328 #[.int .u64 x] w fun e w' => e = .returned (.int .i64 (Lib.bitLen x.toNat)) ∧ w' = w := Any.bits_Len Tryz.lays125 x w h0 h1
def Tryz.lays137_ren : Go.Shelf.Ren := ⟨fun | 137 => 28 | 217 => 43 | 266 => 66 | n => n, fun | 9 => 9 | 5 => 5 | 3 => 3 | n => n, fun | n => n⟩
theorem Tryz.lays137 : Go.Proofs.Lays.n137 Tryz.prog Tryz.lays137_ren := {
  mixed := by kernel_rfl
  f137 := Tryz.func28.trans (congrArg some (by kernel_rfl))
  f217 := Tryz.func43.trans (congrArg some (by kernel_rfl))
  f266 := Tryz.func66.trans (congrArg some (by kernel_rfl))
  t3 := Tryz.underlying3
  a3 := Tryz.isAgg3
  z3 := Tryz.sizeOf3
  v3 := Tryz.zeroValue3
  t5 := Tryz.underlying5
  a5 := Tryz.isAgg5
  z5 := Tryz.sizeOf5
  v5 := Tryz.zeroValue5
  t9 := Tryz.underlying9
  a9 := Tryz.isAgg9
  z9 := Tryz.sizeOf9
  v9 := Tryz.zeroValue9 }
open Go.RowKit in
/-- strings.IndexByte: "IndexByte returns the index of the first instance of c in s, or -1 if c is not present in s.": IT RETURNS 'Lib.indexByte s c'; the world is as it was. (LAID: no walk: one application.) -/
theorem Tryz.strings_IndexByte (s : ByteArray) (c : Int) (w : World) :
    Calls Tryz.prog 28 #[.string s, .int .u8 c] w fun e w' => e = .returned (.int .i64 (Lib.indexByte s.data.toList c.toNat.toUInt8)) ∧ w' = w := Any.strings_IndexByte Tryz.lays137 s c w
open Go.RowKit in
/-- (*strings.Builder).String: "String returns the accumulated string.": OF A BUILDER THAT HOLDS AT LEAST ONE BYTE. ✋ THE MODEL FREEZES THOSE BYTES IN THE BUFFER (unsafe.String): a later write INTO them ends the model's run without an answer; a later append BEHIND them goes on. The statement's order of evaluation is drawn: one draw. THE FORM '_f': IT SAYS BESIDES THAT THE BUILDER IS A BUILDER STILL ('Lib.IsBuilderF', the same bytes): SO IT CAN BE WRITTEN ON: 'b.WriteString(b.String()[:k])'. (LAID: no walk: one application.) -/
theorem Tryz.Builder_String_f (B b : Nat) (l : List UInt8) (w : World) (h : Lib.IsBuilderF 39 5 B b (Lib.byteCells l) w) (h0 : l ≠ []) :
    Calls Tryz.prog 15 #[.pointer (some ⟨b, 0, none⟩)] w fun e w' => e = .returned (.string ⟨l.toArray⟩) ∧ (Lib.IsBuilderF 39 5 B b (Lib.byteCells l) w' ∧ Below B w w') := Any.Builder_String_f Tryz.lays169 Tryz.Builder_Extra_169 B b l w h h0
open Go.RowKit in
/-- (*strings.Builder).String OF A BUILDER THAT HOLDS NO BYTE: the empty string; THE FORM '_f': a builder still. (LAID: no walk: one application.) -/
theorem Tryz.Builder_String_empty_f (B b : Nat) (w : World) (h : Lib.IsBuilderF 39 5 B b [] w) (hBw : B ≤ w.heap.size) :
    Calls Tryz.prog 15 #[.pointer (some ⟨b, 0, none⟩)] w fun e w' => e = .returned (.string ⟨#[]⟩) ∧ (Lib.IsBuilderF 39 5 B b [] w' ∧ Below B w w') := Any.Builder_String_empty_f Tryz.lays169 Tryz.Builder_Extra_169 B b w h hBw
open Go.RowKit in
/-- (*strings.Builder).String: "String returns the accumulated string.": WHATEVER THE BUILDER HOLDS; THE FORM '_f': OF A BUILDER THAT MAY HAVE BEEN READ BEFORE; AND IT IS A BUILDER STILL, holding the same bytes: it can be written on. (LAID: no walk: one application.) -/
theorem Tryz.Builder_String_any_f (B b : Nat) (l : List UInt8) (w : World) (h : Lib.IsBuilderF 39 5 B b (Lib.byteCells l) w) (hBw : B ≤ w.heap.size) :
    Calls Tryz.prog 15 #[.pointer (some ⟨b, 0, none⟩)] w fun e w' => e = .returned (.string ⟨l.toArray⟩) ∧ (Lib.IsBuilderF 39 5 B b (Lib.byteCells l) w' ∧ Below B w w') := Any.Builder_String_any_f Tryz.lays169 Tryz.Builder_Extra_169 B b l w h hBw
open Go.RowKit in
/-- (*strings.Builder).String: "String returns the accumulated string.": OF A BUILDER THAT HOLDS AT LEAST ONE BYTE. ✋ THE MODEL FREEZES THOSE BYTES IN THE BUFFER (unsafe.String): a later write INTO them ends the model's run without an answer; a later append BEHIND them goes on. The statement's order of evaluation is drawn: one draw. THE FORM '_k': OVER 'Lib.IsBuilderF' (a builder that 'String()' may have read), AND WITH THE FRAME THAT REACHES ABOVE THE BUILDER: 'Lib.OthersKept': every block that is not b and is no row of uint8's stands as it stood: the iterator of a range among them. (LAID: no walk: one application.) -/
theorem Tryz.Builder_String_k (B b : Nat) (l : List UInt8) (w : World) (h : Lib.IsBuilderF 39 5 B b (Lib.byteCells l) w) (h0 : l ≠ []) :
    Calls Tryz.prog 15 #[.pointer (some ⟨b, 0, none⟩)] w fun e w' => e = .returned (.string ⟨l.toArray⟩) ∧ (Lib.IsBuilderF 39 5 B b (Lib.byteCells l) w' ∧ Below B w w' ∧ Lib.OthersKept 5 (some b) w w') := Any.Builder_String_k Tryz.lays169 Tryz.Builder_Extra_169 B b l w h h0
open Go.RowKit in
/-- (*strings.Builder).String OF A BUILDER THAT HOLDS NO BYTE: the empty string; THE FORM '_k': OVER 'Lib.IsBuilderF' (a builder that 'String()' may have read), AND WITH THE FRAME THAT REACHES ABOVE THE BUILDER: 'Lib.OthersKept': every block that is not b and is no row of uint8's stands as it stood: the iterator of a range among them. (LAID: no walk: one application.) -/
theorem Tryz.Builder_String_empty_k (B b : Nat) (w : World) (h : Lib.IsBuilderF 39 5 B b [] w) (hBw : B ≤ w.heap.size) :
    Calls Tryz.prog 15 #[.pointer (some ⟨b, 0, none⟩)] w fun e w' => e = .returned (.string ⟨#[]⟩) ∧ (Lib.IsBuilderF 39 5 B b [] w' ∧ Below B w w' ∧ Lib.OthersKept 5 (some b) w w') := Any.Builder_String_empty_k Tryz.lays169 Tryz.Builder_Extra_169 B b w h hBw
open Go.RowKit in
/-- (*strings.Builder).String: "String returns the accumulated string.": WHATEVER THE BUILDER HOLDS; THE FORM '_k': OVER 'Lib.IsBuilderF' (a builder that 'String()' may have read), AND WITH THE FRAME THAT REACHES ABOVE THE BUILDER: 'Lib.OthersKept': every block that is not b and is no row of uint8's stands as it stood: the iterator of a range among them. (LAID: no walk: one application.) -/
theorem Tryz.Builder_String_any_k (B b : Nat) (l : List UInt8) (w : World) (h : Lib.IsBuilderF 39 5 B b (Lib.byteCells l) w) (hBw : B ≤ w.heap.size) :
    Calls Tryz.prog 15 #[.pointer (some ⟨b, 0, none⟩)] w fun e w' => e = .returned (.string ⟨l.toArray⟩) ∧ (Lib.IsBuilderF 39 5 B b (Lib.byteCells l) w' ∧ Below B w w' ∧ Lib.OthersKept 5 (some b) w w') := Any.Builder_String_any_k Tryz.lays169 Tryz.Builder_Extra_169 B b l w h hBw
def Tryz.lays195_ren : Go.Shelf.Ren := ⟨fun | 195 => 113 | n => n, fun | 9 => 9 | 3 => 3 | 0 => 0 | 4 => 4 | n => n, fun | n => n⟩
theorem Tryz.lays195 : Go.Proofs.Lays.n195 Tryz.prog Tryz.lays195_ren := {
  mixed := by kernel_rfl
  f195 := Tryz.func113.trans (congrArg some (by kernel_rfl))
  t0 := Tryz.underlying0
  a0 := Tryz.isAgg0
  z0 := Tryz.sizeOf0
  v0 := Tryz.zeroValue0
  t3 := Tryz.underlying3
  a3 := Tryz.isAgg3
  z3 := Tryz.sizeOf3
  v3 := Tryz.zeroValue3
  t4 := Tryz.underlying4
  a4 := Tryz.isAgg4
  z4 := Tryz.sizeOf4
  v4 := Tryz.zeroValue4
  t9 := Tryz.underlying9
  a9 := Tryz.isAgg9
  z9 := Tryz.sizeOf9
  v9 := Tryz.zeroValue9 }
open Go.RowKit in
/-- unicode/utf8.RuneCountInString: "RuneCountInString is like RuneCount but its input is a string." ("RuneCount returns the number of runes in p. Erroneous and short encodings are treated as single runes of width 1 byte."): EVERY STRING, valid UTF-8 or not: 'Lib.runeCount s' (plain Lean over the model's own 'Utf8.decode'; 'Lib.runeCount_le': at most len(s); 'Lib.runeCount_ascii': on ASCII: len(s)). THE ONE CONDITION: len(s) below 2^63 - 1 (the counter does not wrap): the form's reach pays it. THE WORLD BEHIND THE CALL: ONE BLOCK MORE: the model's iterator over s, at its end: all else as it was. (LAID: no walk: one application.) -/
theorem Tryz.utf8_RuneCountInString (s : ByteArray) (w : World) (hs : s.size < 9223372036854775807) :
    Calls Tryz.prog 113 #[.string s] w fun e w' => e = .returned (.int .i64 (Lib.runeCount s)) ∧ ∃ pos, w' = w.iter s pos := Any.utf8_RuneCountInString Tryz.lays195 s w hs
def Tryz.lays244_ren : Go.Shelf.Ren := ⟨fun | 244 => 46 | 247 => 71 | 287 => 117 | 321 => 157 | 322 => 158 | n => n, fun | 9 => 9 | 3 => 3 | 75 => 42 | 4 => 4 | 5 => 5 | 167 => 149 | 37 => 37 | 0 => 0 | 85 => 150 | 2 => 2 | 53 => 56 | 175 => 194 | 46 => 196 | 21 => 21 | 80 => 46 | n => n, fun | n => n⟩
theorem Tryz.lays244 : Go.Proofs.Lays.n244 Tryz.prog Tryz.lays244_ren := {
  mixed := by kernel_rfl
  f244 := Tryz.func46.trans (congrArg some (by kernel_rfl))
  f247 := Tryz.func71.trans (congrArg some (by kernel_rfl))
  f287 := Tryz.func117.trans (congrArg some (by kernel_rfl))
  f321 := Tryz.func157.trans (congrArg some (by kernel_rfl))
  f322 := Tryz.func158.trans (congrArg some (by kernel_rfl))
  t0 := Tryz.underlying0
  a0 := Tryz.isAgg0
  z0 := Tryz.sizeOf0
  v0 := Tryz.zeroValue0
  t2 := Tryz.underlying2
  a2 := Tryz.isAgg2
  z2 := Tryz.sizeOf2
  v2 := Tryz.zeroValue2
  t3 := Tryz.underlying3
  a3 := Tryz.isAgg3
  z3 := Tryz.sizeOf3
  v3 := Tryz.zeroValue3
  t4 := Tryz.underlying4
  a4 := Tryz.isAgg4
  z4 := Tryz.sizeOf4
  v4 := Tryz.zeroValue4
  t5 := Tryz.underlying5
  a5 := Tryz.isAgg5
  z5 := Tryz.sizeOf5
  v5 := Tryz.zeroValue5
  t9 := Tryz.underlying9
  a9 := Tryz.isAgg9
  z9 := Tryz.sizeOf9
  v9 := Tryz.zeroValue9
  t21 := Tryz.underlying21
  a21 := Tryz.isAgg21
  z21 := Tryz.sizeOf21
  v21 := Tryz.zeroValue21
  t37 := Tryz.underlying37
  a37 := Tryz.isAgg37
  z37 := Tryz.sizeOf37
  v37 := Tryz.zeroValue37
  t46 := Tryz.underlying196
  a46 := Tryz.isAgg196
  z46 := Tryz.sizeOf196
  v46 := Tryz.zeroValue196
  t53 := Tryz.underlying56
  a53 := Tryz.isAgg56
  z53 := Tryz.sizeOf56
  v53 := Tryz.zeroValue56
  t75 := Tryz.underlying42
  a75 := Tryz.isAgg42
  z75 := Tryz.sizeOf42
  v75 := Tryz.zeroValue42
  t85 := Tryz.underlying150
  a85 := Tryz.isAgg150
  z85 := Tryz.sizeOf150
  v85 := Tryz.zeroValue150
  t167 := Tryz.underlying149
  a167 := Tryz.isAgg149
  z167 := Tryz.sizeOf149
  v167 := Tryz.zeroValue149
  t175 := Tryz.underlying194
  a175 := Tryz.isAgg194
  z175 := Tryz.sizeOf194
  v175 := Tryz.zeroValue194 }
open Go.RowKit in
/-- internal/strconv.Atoi, at a decimal numeral of at most 18 bytes: ITS VALUE, AND NO ERROR. The world behind the call: the one new row that '[]byte(s)' lays. (LAID: no walk: one application.) -/
theorem Tryz.internal_strconv_Atoi (s : ByteArray) (n : Int) (hl : s.size ≤ 18) (h : Lib.atoi s.data.toList = some n) (w : World) :
    Calls Tryz.prog 46 #[.string s] w fun e w' => e = .returned (.tuple #[.int .i64 n, .nilIface]) ∧ ∃ t, w' = Lib.bytesWorld w 5 t := Any.internal_strconv_Atoi Tryz.lays244 s n hl h w
def Tryz.lays172_ren : Go.Shelf.Ren := ⟨fun | 172 => 31 | 244 => 46 | 245 => 47 | 247 => 71 | 279 => 72 | 280 => 73 | 281 => 74 | 282 => 75 | 287 => 117 | 316 => 118 | 171 => 25 | 205 => 119 | 321 => 157 | 322 => 158 | 243 => 42 | 246 => 65 | 283 => 109 | 284 => 110 | 285 => 111 | 286 => 112 | 129 => 149 | 317 => 148 | 318 => 150 | 319 => 151 | 320 => 152 | 337 => 204 | 338 => 205 | n => n, fun | 9 => 9 | 3 => 3 | 75 => 42 | 76 => 43 | 4 => 4 | 5 => 5 | 167 => 149 | 37 => 37 | 0 => 0 | 85 => 150 | 2 => 2 | 168 => 152 | 53 => 56 | 175 => 194 | 46 => 196 | 210 => 199 | 127 => 73 | 145 => 289 | 143 => 287 | 21 => 21 | 171 => 187 | 173 => 190 | 212 => 282 | 51 => 142 | 20 => 20 | 213 => 283 | 232 => 399 | 233 => 400 | 80 => 46 | n => n, fun | 15 => 3 | 16 => 4 | 17 => 5 | 18 => 9 | 19 => 10 | n => n⟩
theorem Tryz.lays172 : Go.Proofs.Lays.n172 Tryz.prog Tryz.lays172_ren := {
  mixed := by kernel_rfl
  f129 := Tryz.func149.trans (congrArg some (by kernel_rfl))
  f171 := Tryz.func25.trans (congrArg some (by kernel_rfl))
  f172 := Tryz.func31.trans (congrArg some (by kernel_rfl))
  f205 := Tryz.func119.trans (congrArg some (by kernel_rfl))
  f243 := Tryz.func42.trans (congrArg some (by kernel_rfl))
  f244 := Tryz.func46.trans (congrArg some (by kernel_rfl))
  f245 := Tryz.func47.trans (congrArg some (by kernel_rfl))
  f246 := Tryz.func65.trans (congrArg some (by kernel_rfl))
  f247 := Tryz.func71.trans (congrArg some (by kernel_rfl))
  f279 := Tryz.func72.trans (congrArg some (by kernel_rfl))
  f280 := Tryz.func73.trans (congrArg some (by kernel_rfl))
  f281 := Tryz.func74.trans (congrArg some (by kernel_rfl))
  f282 := Tryz.func75.trans (congrArg some (by kernel_rfl))
  f283 := Tryz.func109.trans (congrArg some (by kernel_rfl))
  f284 := Tryz.func110.trans (congrArg some (by kernel_rfl))
  f285 := Tryz.func111.trans (congrArg some (by kernel_rfl))
  f286 := Tryz.func112.trans (congrArg some (by kernel_rfl))
  f287 := Tryz.func117.trans (congrArg some (by kernel_rfl))
  f316 := Tryz.func118.trans (congrArg some (by kernel_rfl))
  f317 := Tryz.func148.trans (congrArg some (by kernel_rfl))
  f318 := Tryz.func150.trans (congrArg some (by kernel_rfl))
  f319 := Tryz.func151.trans (congrArg some (by kernel_rfl))
  f320 := Tryz.func152.trans (congrArg some (by kernel_rfl))
  f321 := Tryz.func157.trans (congrArg some (by kernel_rfl))
  f322 := Tryz.func158.trans (congrArg some (by kernel_rfl))
  f337 := Tryz.func204.trans (congrArg some (by kernel_rfl))
  f338 := Tryz.func205.trans (congrArg some (by kernel_rfl))
  t0 := Tryz.underlying0
  a0 := Tryz.isAgg0
  z0 := Tryz.sizeOf0
  v0 := Tryz.zeroValue0
  t2 := Tryz.underlying2
  a2 := Tryz.isAgg2
  z2 := Tryz.sizeOf2
  v2 := Tryz.zeroValue2
  t3 := Tryz.underlying3
  a3 := Tryz.isAgg3
  z3 := Tryz.sizeOf3
  v3 := Tryz.zeroValue3
  t4 := Tryz.underlying4
  a4 := Tryz.isAgg4
  z4 := Tryz.sizeOf4
  v4 := Tryz.zeroValue4
  t5 := Tryz.underlying5
  a5 := Tryz.isAgg5
  z5 := Tryz.sizeOf5
  v5 := Tryz.zeroValue5
  t9 := Tryz.underlying9
  a9 := Tryz.isAgg9
  z9 := Tryz.sizeOf9
  v9 := Tryz.zeroValue9
  t20 := Tryz.underlying20
  a20 := Tryz.isAgg20
  z20 := Tryz.sizeOf20
  v20 := Tryz.zeroValue20
  t21 := Tryz.underlying21
  a21 := Tryz.isAgg21
  z21 := Tryz.sizeOf21
  v21 := Tryz.zeroValue21
  t37 := Tryz.underlying37
  a37 := Tryz.isAgg37
  z37 := Tryz.sizeOf37
  v37 := Tryz.zeroValue37
  t46 := Tryz.underlying196
  a46 := Tryz.isAgg196
  z46 := Tryz.sizeOf196
  v46 := Tryz.zeroValue196
  t51 := Tryz.underlying142
  a51 := Tryz.isAgg142
  z51 := Tryz.sizeOf142
  v51 := Tryz.zeroValue142
  t53 := Tryz.underlying56
  a53 := Tryz.isAgg56
  z53 := Tryz.sizeOf56
  v53 := Tryz.zeroValue56
  t75 := Tryz.underlying42
  a75 := Tryz.isAgg42
  z75 := Tryz.sizeOf42
  v75 := Tryz.zeroValue42
  t76 := Tryz.underlying43
  a76 := Tryz.isAgg43
  z76 := Tryz.sizeOf43
  v76 := Tryz.zeroValue43
  t85 := Tryz.underlying150
  a85 := Tryz.isAgg150
  z85 := Tryz.sizeOf150
  v85 := Tryz.zeroValue150
  t127 := Tryz.underlying73
  a127 := Tryz.isAgg73
  z127 := Tryz.sizeOf73
  v127 := Tryz.zeroValue73
  t143 := Tryz.underlying287
  a143 := Tryz.isAgg287
  z143 := Tryz.sizeOf287
  v143 := Tryz.zeroValue287
  t145 := Tryz.underlying289
  a145 := Tryz.isAgg289
  z145 := Tryz.sizeOf289
  v145 := Tryz.zeroValue289
  t167 := Tryz.underlying149
  a167 := Tryz.isAgg149
  z167 := Tryz.sizeOf149
  v167 := Tryz.zeroValue149
  t168 := Tryz.underlying152
  a168 := Tryz.isAgg152
  z168 := Tryz.sizeOf152
  v168 := Tryz.zeroValue152
  t171 := Tryz.underlying187
  a171 := Tryz.isAgg187
  z171 := Tryz.sizeOf187
  v171 := Tryz.zeroValue187
  t173 := Tryz.underlying190
  a173 := Tryz.isAgg190
  z173 := Tryz.sizeOf190
  v173 := Tryz.zeroValue190
  t175 := Tryz.underlying194
  a175 := Tryz.isAgg194
  z175 := Tryz.sizeOf194
  v175 := Tryz.zeroValue194
  t210 := Tryz.underlying199
  a210 := Tryz.isAgg199
  z210 := Tryz.sizeOf199
  v210 := Tryz.zeroValue199
  t212 := Tryz.underlying282
  a212 := Tryz.isAgg282
  z212 := Tryz.sizeOf282
  v212 := Tryz.zeroValue282
  t213 := Tryz.underlying283
  a213 := Tryz.isAgg283
  z213 := Tryz.sizeOf283
  t232 := Tryz.underlying399
  a232 := Tryz.isAgg399
  z232 := Tryz.sizeOf399
  v232 := Tryz.zeroValue399
  t233 := Tryz.underlying400
  a233 := Tryz.isAgg400
  z233 := Tryz.sizeOf400
  v233 := Tryz.zeroValue400
  g15 := by kernel_rfl
  g16 := by kernel_rfl
  g17 := by kernel_rfl
  g18 := by kernel_rfl
  g19 := by kernel_rfl }
open Go.RowKit in
/-- strconv.Atoi: "Atoi is equivalent to ParseInt(s, 10, 0), converted to type int.": AT A DECIMAL NUMERAL OF AT MOST 18 BYTES: its value, and a nil error. The world behind the call: the one new row that the library's '[]byte(s)' lays. (LAID: no walk: one application.) -/
theorem Tryz.strconv_Atoi (s : ByteArray) (n : Int) (hl : s.size ≤ 18) (h : Lib.atoi s.data.toList = some n) (w : World) :
    Calls Tryz.prog 31 #[.string s] w fun e w' => e = .returned (.tuple #[.int .i64 n, .nilIface]) ∧ ∃ t, w' = Lib.bytesWorld w 5 t := Any.strconv_Atoi Tryz.lays172 s n hl h w
def Tryz.lays129_ren : Go.Shelf.Ren := ⟨fun | 129 => 149 | n => n, fun | 53 => 56 | 3 => 3 | 4 => 4 | 46 => 196 | 5 => 5 | 9 => 9 | n => n, fun | n => n⟩
theorem Tryz.lays129 : Go.Proofs.Lays.n129 Tryz.prog Tryz.lays129_ren := {
  mixed := by kernel_rfl
  f129 := Tryz.func149.trans (congrArg some (by kernel_rfl))
  t3 := Tryz.underlying3
  a3 := Tryz.isAgg3
  z3 := Tryz.sizeOf3
  v3 := Tryz.zeroValue3
  t4 := Tryz.underlying4
  a4 := Tryz.isAgg4
  z4 := Tryz.sizeOf4
  v4 := Tryz.zeroValue4
  t5 := Tryz.underlying5
  a5 := Tryz.isAgg5
  z5 := Tryz.sizeOf5
  v5 := Tryz.zeroValue5
  t9 := Tryz.underlying9
  a9 := Tryz.isAgg9
  z9 := Tryz.sizeOf9
  v9 := Tryz.zeroValue9
  t46 := Tryz.underlying196
  a46 := Tryz.isAgg196
  z46 := Tryz.sizeOf196
  v46 := Tryz.zeroValue196
  t53 := Tryz.underlying56
  a53 := Tryz.isAgg56
  z53 := Tryz.sizeOf56
  v53 := Tryz.zeroValue56 }
/-- bits.Len64: "Len64 returns the minimum number of bits required to represent x; the result is 0 for x == 0.": IT RETURNS 'Lib.bitLen x'; the world is as it was. ('h0', 'h1': x is a uint64.) (LAID: no walk: one application.) -/
theorem Tryz.bits_Len64 (x : Int) (w : World) (h0 : 0 ≤ x) (h1 : x ≤ 18446744073709551615) :
    Calls Tryz.prog 149 #[.int .u64 x] w fun e w' => e = .returned (.int .i64 (Lib.bitLen x.toNat)) ∧ w' = w := Any.bits_Len64 Tryz.lays129 x w h0 h1
def Tryz.lays317_ren : Go.Shelf.Ren := ⟨fun | 317 => 148 | n => n, fun | 3 => 3 | 46 => 196 | n => n, fun | n => n⟩
theorem Tryz.lays317 : Go.Proofs.Lays.n317 Tryz.prog Tryz.lays317_ren := {
  mixed := by kernel_rfl
  f317 := Tryz.func148.trans (congrArg some (by kernel_rfl))
  t3 := Tryz.underlying3
  a3 := Tryz.isAgg3
  z3 := Tryz.sizeOf3
  v3 := Tryz.zeroValue3
  t46 := Tryz.underlying196
  a46 := Tryz.isAgg196
  z46 := Tryz.sizeOf196
  v46 := Tryz.zeroValue196 }
open Go.Lib in
/-- internal/strconv.log10Pow2: "log10Pow2(x) returns ⌊log₁₀ 2**x⌋ = ⌊x * log₁₀ 2⌋.": '(x * 78913) >> 18', at an x up to 64 (a length in bits). The world is as it was. (LAID: no walk: one application.) -/
theorem Tryz.internal_strconv_log10Pow2 (x : Nat) (h : x ≤ 64) (w : World) :
    Calls Tryz.prog 148 #[.int .i64 x] w fun e w' => e = .returned (.int .i64 (Lib.l10 x)) ∧ w' = w := Any.internal_strconv_log10Pow2 Tryz.lays317 x h w
def Tryz.lays318_ren : Go.Shelf.Ren := ⟨fun | 318 => 150 | n => n, fun | 3 => 3 | 4 => 4 | n => n, fun | n => n⟩
theorem Tryz.lays318 : Go.Proofs.Lays.n318 Tryz.prog Tryz.lays318_ren := {
  mixed := by kernel_rfl
  f318 := Tryz.func150.trans (congrArg some (by kernel_rfl))
  t3 := Tryz.underlying3
  a3 := Tryz.isAgg3
  z3 := Tryz.sizeOf3
  v3 := Tryz.zeroValue3
  t4 := Tryz.underlying4
  a4 := Tryz.isAgg4
  z4 := Tryz.sizeOf4
  v4 := Tryz.zeroValue4 }
open Go.Lib in
/-- internal/strconv.bool2: "bool2 converts b to an integer: 1 for true, 0 for false." The world is as it was. (LAID: no walk: one application.) -/
theorem Tryz.internal_strconv_bool2_int (b : Bool) (w : World) :
    Calls Tryz.prog 150 #[.bool b] w fun e w' => e = .returned (.int .i64 (if b then 1 else 0)) ∧ w' = w := Any.internal_strconv_bool2_int Tryz.lays318 b w
def Tryz.lays283_ren : Go.Shelf.Ren := ⟨fun | 283 => 109 | n => n, fun | 3 => 3 | 9 => 9 | 4 => 4 | n => n, fun | n => n⟩
theorem Tryz.lays283 : Go.Proofs.Lays.n283 Tryz.prog Tryz.lays283_ren := {
  mixed := by kernel_rfl
  f283 := Tryz.func109.trans (congrArg some (by kernel_rfl))
  t3 := Tryz.underlying3
  a3 := Tryz.isAgg3
  z3 := Tryz.sizeOf3
  v3 := Tryz.zeroValue3
  t4 := Tryz.underlying4
  a4 := Tryz.isAgg4
  z4 := Tryz.sizeOf4
  v4 := Tryz.zeroValue4
  t9 := Tryz.underlying9
  a9 := Tryz.isAgg9
  z9 := Tryz.sizeOf9
  v9 := Tryz.zeroValue9 }
open Go.Lib in
/-- internal/strconv.small: "small returns the string for an i with 0 <= i < nSmalls.": i's decimal numeral. The world is as it was. (LAID: no walk: one application.) -/
theorem Tryz.internal_strconv_small (i : Nat) (h : i < 100) (w : World) :
    Calls Tryz.prog 109 #[.int .i64 i] w fun e w' => e = .returned (.string ⟨(Lib.decDigits i).toArray⟩) ∧ w' = w := Any.internal_strconv_small Tryz.lays283 i h w
def Tryz.laysM284_ren : Go.Shelf.Ren := ⟨fun | 284 => 110 | 129 => 149 | 317 => 148 | 318 => 150 | n => n, fun | 53 => 56 | 3 => 3 | 212 => 282 | 0 => 0 | 4 => 4 | 46 => 196 | 5 => 5 | 9 => 9 | n => n, fun | 17 => 5 | n => n⟩
theorem Tryz.laysM284 : Go.Proofs.LaysM.n284 Tryz.prog Tryz.laysM284_ren := {
  mixed := by kernel_rfl
  f129 := Tryz.func149.trans (congrArg some (by kernel_rfl))
  f284 := Tryz.func110.trans (congrArg some (by kernel_rfl))
  f317 := Tryz.func148.trans (congrArg some (by kernel_rfl))
  f318 := Tryz.func150.trans (congrArg some (by kernel_rfl))
  t0 := Tryz.underlying0
  a0 := Tryz.isAgg0
  z0 := Tryz.sizeOf0
  v0 := Tryz.zeroValue0
  t3 := Tryz.underlying3
  a3 := Tryz.isAgg3
  z3 := Tryz.sizeOf3
  v3 := Tryz.zeroValue3
  t4 := Tryz.underlying4
  a4 := Tryz.isAgg4
  z4 := Tryz.sizeOf4
  v4 := Tryz.zeroValue4
  t5 := Tryz.underlying5
  a5 := Tryz.isAgg5
  z5 := Tryz.sizeOf5
  v5 := Tryz.zeroValue5
  t9 := Tryz.underlying9
  a9 := Tryz.isAgg9
  z9 := Tryz.sizeOf9
  v9 := Tryz.zeroValue9
  t46 := Tryz.underlying196
  a46 := Tryz.isAgg196
  z46 := Tryz.sizeOf196
  v46 := Tryz.zeroValue196
  t53 := Tryz.underlying56
  a53 := Tryz.isAgg56
  z53 := Tryz.sizeOf56
  v53 := Tryz.zeroValue56
  t212 := Tryz.underlying282
  a212 := Tryz.isAgg282
  z212 := Tryz.sizeOf282
  v212 := Tryz.zeroValue282
  g17 := by kernel_rfl
  i0 := by kernel_rfl
  i3 := by kernel_rfl
  i4 := by kernel_rfl
  i5 := by kernel_rfl
  i9 := by kernel_rfl
  i46 := by kernel_rfl
  i53 := by kernel_rfl
  i212 := by kernel_rfl
  m17 := by kernel_rfl }
open Go.Lib in
/-- internal/strconv.numDigits, at a d that is not 0: THE NUMBER OF d's DECIMAL DIGITS. The world is as it was. (LAID: no walk: one application.) -/
theorem Tryz.internal_strconv_numDigits (u : Nat) (h1 : 1 ≤ u) (h2 : u < 18446744073709551616) (w : World) (htab : Lib.TabIs Tryz.prog w "internal/strconv.uint64pow10" .u64 Lib.pow10Tab) :
    Calls Tryz.prog 110 #[.int .u64 u] w fun e w' => e = .returned (.int .i64 (Lib.nDigits u)) ∧ w' = w := Any.internal_strconv_numDigits Tryz.laysM284 u h1 h2 w htab
def Tryz.lays285_ren : Go.Shelf.Ren := ⟨fun | 285 => 111 | n => n, fun | 37 => 37 | 53 => 56 | 3 => 3 | 4 => 4 | 51 => 142 | 9 => 9 | 5 => 5 | 0 => 0 | n => n, fun | n => n⟩
theorem Tryz.lays285 : Go.Proofs.Lays.n285 Tryz.prog Tryz.lays285_ren := {
  mixed := by kernel_rfl
  f285 := Tryz.func111.trans (congrArg some (by kernel_rfl))
  t0 := Tryz.underlying0
  a0 := Tryz.isAgg0
  z0 := Tryz.sizeOf0
  v0 := Tryz.zeroValue0
  t3 := Tryz.underlying3
  a3 := Tryz.isAgg3
  z3 := Tryz.sizeOf3
  v3 := Tryz.zeroValue3
  t4 := Tryz.underlying4
  a4 := Tryz.isAgg4
  z4 := Tryz.sizeOf4
  v4 := Tryz.zeroValue4
  t5 := Tryz.underlying5
  a5 := Tryz.isAgg5
  z5 := Tryz.sizeOf5
  v5 := Tryz.zeroValue5
  t9 := Tryz.underlying9
  a9 := Tryz.isAgg9
  z9 := Tryz.sizeOf9
  v9 := Tryz.zeroValue9
  t37 := Tryz.underlying37
  a37 := Tryz.isAgg37
  z37 := Tryz.sizeOf37
  v37 := Tryz.zeroValue37
  t51 := Tryz.underlying142
  a51 := Tryz.isAgg142
  z51 := Tryz.sizeOf142
  v51 := Tryz.zeroValue142
  t53 := Tryz.underlying56
  a53 := Tryz.isAgg56
  z53 := Tryz.sizeOf56
  v53 := Tryz.zeroValue56 }
open Go.RowKit Go.Sort Go.Lib in
/-- internal/strconv.formatBase10: "formatBase10 formats the decimal representation of u into a. The caller is responsible for ensuring that a is big enough to hold u. If a is too big, leading zeros will be filled in as needed.": THE ROW HOLDS u's DIGITS ('FmtInv .. 0 ..': every place t holds 'dg u (len - 1 - t)'); all else is as it was but for the count of draws. (LAID: no walk: one application.) -/
theorem Tryz.internal_strconv_formatBase10 (blk off cap : Nat) (u : Nat) (d : Array UInt8) (w : World) (hH : Holds (fun (b : UInt8) => Value.int .u8 (b.toNat : Int)) w blk off d) (hu : u < 10 ^ d.size) (hu64 : u < 18446744073709551616) (hsz : d.size < 4611686018427387904) :
    Calls Tryz.prog 111 #[.slice (some ⟨blk, off, none⟩) d.size cap, .int .u64 u] w fun e w' =>
      e = .returned (.tuple #[]) ∧ ∃ (n v' : Nat) (dk : Array UInt8), w' = (putRow (fun (b : UInt8) => Value.int .u8 (b.toNat : Int)) w blk off dk).drewN n ∧ FmtInv d.size u 0 v' dk := Any.internal_strconv_formatBase10 Tryz.lays285 blk off cap u d w hH hu hu64 hsz
def Tryz.laysM246_ren : Go.Shelf.Ren := ⟨fun | 246 => 65 | 283 => 109 | 284 => 110 | 285 => 111 | 286 => 112 | 129 => 149 | 317 => 148 | 318 => 150 | 319 => 151 | 320 => 152 | 337 => 204 | 338 => 205 | n => n, fun | 2 => 2 | 3 => 3 | 9 => 9 | 4 => 4 | 171 => 187 | 0 => 0 | 53 => 56 | 37 => 37 | 5 => 5 | 173 => 190 | 212 => 282 | 51 => 142 | 20 => 20 | 213 => 283 | 46 => 196 | 232 => 399 | 233 => 400 | n => n, fun | 17 => 5 | 18 => 9 | 19 => 10 | n => n⟩
theorem Tryz.laysM246 : Go.Proofs.LaysM.n246 Tryz.prog Tryz.laysM246_ren := {
  mixed := by kernel_rfl
  f129 := Tryz.func149.trans (congrArg some (by kernel_rfl))
  f246 := Tryz.func65.trans (congrArg some (by kernel_rfl))
  f283 := Tryz.func109.trans (congrArg some (by kernel_rfl))
  f284 := Tryz.func110.trans (congrArg some (by kernel_rfl))
  f285 := Tryz.func111.trans (congrArg some (by kernel_rfl))
  f286 := Tryz.func112.trans (congrArg some (by kernel_rfl))
  f317 := Tryz.func148.trans (congrArg some (by kernel_rfl))
  f318 := Tryz.func150.trans (congrArg some (by kernel_rfl))
  f319 := Tryz.func151.trans (congrArg some (by kernel_rfl))
  f320 := Tryz.func152.trans (congrArg some (by kernel_rfl))
  f337 := Tryz.func204.trans (congrArg some (by kernel_rfl))
  f338 := Tryz.func205.trans (congrArg some (by kernel_rfl))
  t0 := Tryz.underlying0
  a0 := Tryz.isAgg0
  z0 := Tryz.sizeOf0
  v0 := Tryz.zeroValue0
  t2 := Tryz.underlying2
  a2 := Tryz.isAgg2
  z2 := Tryz.sizeOf2
  v2 := Tryz.zeroValue2
  t3 := Tryz.underlying3
  a3 := Tryz.isAgg3
  z3 := Tryz.sizeOf3
  v3 := Tryz.zeroValue3
  t4 := Tryz.underlying4
  a4 := Tryz.isAgg4
  z4 := Tryz.sizeOf4
  v4 := Tryz.zeroValue4
  t5 := Tryz.underlying5
  a5 := Tryz.isAgg5
  z5 := Tryz.sizeOf5
  v5 := Tryz.zeroValue5
  t9 := Tryz.underlying9
  a9 := Tryz.isAgg9
  z9 := Tryz.sizeOf9
  v9 := Tryz.zeroValue9
  t20 := Tryz.underlying20
  a20 := Tryz.isAgg20
  z20 := Tryz.sizeOf20
  v20 := Tryz.zeroValue20
  t37 := Tryz.underlying37
  a37 := Tryz.isAgg37
  z37 := Tryz.sizeOf37
  v37 := Tryz.zeroValue37
  t46 := Tryz.underlying196
  a46 := Tryz.isAgg196
  z46 := Tryz.sizeOf196
  v46 := Tryz.zeroValue196
  t51 := Tryz.underlying142
  a51 := Tryz.isAgg142
  z51 := Tryz.sizeOf142
  v51 := Tryz.zeroValue142
  t53 := Tryz.underlying56
  a53 := Tryz.isAgg56
  z53 := Tryz.sizeOf56
  v53 := Tryz.zeroValue56
  t171 := Tryz.underlying187
  a171 := Tryz.isAgg187
  z171 := Tryz.sizeOf187
  v171 := Tryz.zeroValue187
  t173 := Tryz.underlying190
  a173 := Tryz.isAgg190
  z173 := Tryz.sizeOf190
  v173 := Tryz.zeroValue190
  t212 := Tryz.underlying282
  a212 := Tryz.isAgg282
  z212 := Tryz.sizeOf282
  v212 := Tryz.zeroValue282
  t213 := Tryz.underlying283
  a213 := Tryz.isAgg283
  z213 := Tryz.sizeOf283
  t232 := Tryz.underlying399
  a232 := Tryz.isAgg399
  z232 := Tryz.sizeOf399
  v232 := Tryz.zeroValue399
  t233 := Tryz.underlying400
  a233 := Tryz.isAgg400
  z233 := Tryz.sizeOf400
  v233 := Tryz.zeroValue400
  g17 := by kernel_rfl
  g18 := by kernel_rfl
  g19 := by kernel_rfl
  i0 := by kernel_rfl
  i2 := by kernel_rfl
  i3 := by kernel_rfl
  i4 := by kernel_rfl
  i5 := by kernel_rfl
  i9 := by kernel_rfl
  i20 := by kernel_rfl
  i37 := by kernel_rfl
  i46 := by kernel_rfl
  i51 := by kernel_rfl
  i53 := by kernel_rfl
  i171 := by kernel_rfl
  i173 := by kernel_rfl
  i212 := by kernel_rfl
  i232 := by kernel_rfl
  i233 := by kernel_rfl
  m17 := by kernel_rfl
  m18 := by kernel_rfl
  m19 := by kernel_rfl }
open Go.RowKit Go.Sort Go.Lib in
/-- internal/strconv.FormatInt: "FormatInt returns the string representation of i in the given base": AT BASE 10: i's decimal numeral, for every int64. The world behind the call: the world before it, new blocks behind the heap, draws. (LAID: no walk: one application.) -/
theorem Tryz.internal_strconv_FormatInt_10 (n : Int) (h0 : -9223372036854775808 ≤ n) (h1 : n ≤ 9223372036854775807) (w : World) (htab : Lib.TabIs Tryz.prog w "internal/strconv.uint64pow10" .u64 Lib.pow10Tab) :
    Calls Tryz.prog 65 #[.int .i64 n, .int .i64 10] w fun e w' => e = .returned (.string ⟨(Lib.itoa n).toArray⟩) ∧ ∃ k os, w' = grow (w.drewN k) os := Any.internal_strconv_FormatInt_10 Tryz.laysM246 n h0 h1 w htab
def Tryz.lays246_ren : Go.Shelf.Ren := ⟨fun | 246 => 65 | 283 => 109 | 284 => 110 | 285 => 111 | 286 => 112 | 129 => 149 | 317 => 148 | 318 => 150 | 319 => 151 | 320 => 152 | 337 => 204 | 338 => 205 | n => n, fun | 2 => 2 | 3 => 3 | 9 => 9 | 4 => 4 | 171 => 187 | 0 => 0 | 53 => 56 | 37 => 37 | 5 => 5 | 173 => 190 | 212 => 282 | 51 => 142 | 20 => 20 | 213 => 283 | 46 => 196 | 232 => 399 | 233 => 400 | n => n, fun | 17 => 5 | 18 => 9 | 19 => 10 | n => n⟩
theorem Tryz.lays246 : Go.Proofs.Lays.n246 Tryz.prog Tryz.lays246_ren := {
  mixed := by kernel_rfl
  f129 := Tryz.func149.trans (congrArg some (by kernel_rfl))
  f246 := Tryz.func65.trans (congrArg some (by kernel_rfl))
  f283 := Tryz.func109.trans (congrArg some (by kernel_rfl))
  f284 := Tryz.func110.trans (congrArg some (by kernel_rfl))
  f285 := Tryz.func111.trans (congrArg some (by kernel_rfl))
  f286 := Tryz.func112.trans (congrArg some (by kernel_rfl))
  f317 := Tryz.func148.trans (congrArg some (by kernel_rfl))
  f318 := Tryz.func150.trans (congrArg some (by kernel_rfl))
  f319 := Tryz.func151.trans (congrArg some (by kernel_rfl))
  f320 := Tryz.func152.trans (congrArg some (by kernel_rfl))
  f337 := Tryz.func204.trans (congrArg some (by kernel_rfl))
  f338 := Tryz.func205.trans (congrArg some (by kernel_rfl))
  t0 := Tryz.underlying0
  a0 := Tryz.isAgg0
  z0 := Tryz.sizeOf0
  v0 := Tryz.zeroValue0
  t2 := Tryz.underlying2
  a2 := Tryz.isAgg2
  z2 := Tryz.sizeOf2
  v2 := Tryz.zeroValue2
  t3 := Tryz.underlying3
  a3 := Tryz.isAgg3
  z3 := Tryz.sizeOf3
  v3 := Tryz.zeroValue3
  t4 := Tryz.underlying4
  a4 := Tryz.isAgg4
  z4 := Tryz.sizeOf4
  v4 := Tryz.zeroValue4
  t5 := Tryz.underlying5
  a5 := Tryz.isAgg5
  z5 := Tryz.sizeOf5
  v5 := Tryz.zeroValue5
  t9 := Tryz.underlying9
  a9 := Tryz.isAgg9
  z9 := Tryz.sizeOf9
  v9 := Tryz.zeroValue9
  t20 := Tryz.underlying20
  a20 := Tryz.isAgg20
  z20 := Tryz.sizeOf20
  v20 := Tryz.zeroValue20
  t37 := Tryz.underlying37
  a37 := Tryz.isAgg37
  z37 := Tryz.sizeOf37
  v37 := Tryz.zeroValue37
  t46 := Tryz.underlying196
  a46 := Tryz.isAgg196
  z46 := Tryz.sizeOf196
  v46 := Tryz.zeroValue196
  t51 := Tryz.underlying142
  a51 := Tryz.isAgg142
  z51 := Tryz.sizeOf142
  v51 := Tryz.zeroValue142
  t53 := Tryz.underlying56
  a53 := Tryz.isAgg56
  z53 := Tryz.sizeOf56
  v53 := Tryz.zeroValue56
  t171 := Tryz.underlying187
  a171 := Tryz.isAgg187
  z171 := Tryz.sizeOf187
  v171 := Tryz.zeroValue187
  t173 := Tryz.underlying190
  a173 := Tryz.isAgg190
  z173 := Tryz.sizeOf190
  v173 := Tryz.zeroValue190
  t212 := Tryz.underlying282
  a212 := Tryz.isAgg282
  z212 := Tryz.sizeOf282
  v212 := Tryz.zeroValue282
  t213 := Tryz.underlying283
  a213 := Tryz.isAgg283
  z213 := Tryz.sizeOf283
  t232 := Tryz.underlying399
  a232 := Tryz.isAgg399
  z232 := Tryz.sizeOf399
  v232 := Tryz.zeroValue399
  t233 := Tryz.underlying400
  a233 := Tryz.isAgg400
  z233 := Tryz.sizeOf400
  v233 := Tryz.zeroValue400
  g17 := by kernel_rfl
  g18 := by kernel_rfl
  g19 := by kernel_rfl }
open Go.RowKit Go.Sort Go.Lib in
/-- THE ROAD WITHOUT THE TABLE: 0 <= i < 100: two constants are read, nothing is laid: no premise on the world, and the world is as it was. (LAID: no walk: one application.) -/
theorem Tryz.internal_strconv_FormatInt_10_small (i : Nat) (hi : i < 100) (w : World) :
    Calls Tryz.prog 65 #[.int .i64 i, .int .i64 10] w fun e w' => e = .returned (.string ⟨(Lib.decDigits i).toArray⟩) ∧ w' = w := Any.internal_strconv_FormatInt_10_small Tryz.lays246 i hi w
def Tryz.laysM243_ren : Go.Shelf.Ren := ⟨fun | 243 => 42 | 246 => 65 | 283 => 109 | 284 => 110 | 285 => 111 | 286 => 112 | 129 => 149 | 317 => 148 | 318 => 150 | 319 => 151 | 320 => 152 | 337 => 204 | 338 => 205 | n => n, fun | 3 => 3 | 9 => 9 | 2 => 2 | 4 => 4 | 171 => 187 | 0 => 0 | 53 => 56 | 37 => 37 | 5 => 5 | 173 => 190 | 212 => 282 | 51 => 142 | 20 => 20 | 213 => 283 | 46 => 196 | 232 => 399 | 233 => 400 | n => n, fun | 17 => 5 | 18 => 9 | 19 => 10 | n => n⟩
theorem Tryz.laysM243 : Go.Proofs.LaysM.n243 Tryz.prog Tryz.laysM243_ren := {
  mixed := by kernel_rfl
  f129 := Tryz.func149.trans (congrArg some (by kernel_rfl))
  f243 := Tryz.func42.trans (congrArg some (by kernel_rfl))
  f246 := Tryz.func65.trans (congrArg some (by kernel_rfl))
  f283 := Tryz.func109.trans (congrArg some (by kernel_rfl))
  f284 := Tryz.func110.trans (congrArg some (by kernel_rfl))
  f285 := Tryz.func111.trans (congrArg some (by kernel_rfl))
  f286 := Tryz.func112.trans (congrArg some (by kernel_rfl))
  f317 := Tryz.func148.trans (congrArg some (by kernel_rfl))
  f318 := Tryz.func150.trans (congrArg some (by kernel_rfl))
  f319 := Tryz.func151.trans (congrArg some (by kernel_rfl))
  f320 := Tryz.func152.trans (congrArg some (by kernel_rfl))
  f337 := Tryz.func204.trans (congrArg some (by kernel_rfl))
  f338 := Tryz.func205.trans (congrArg some (by kernel_rfl))
  t0 := Tryz.underlying0
  a0 := Tryz.isAgg0
  z0 := Tryz.sizeOf0
  v0 := Tryz.zeroValue0
  t2 := Tryz.underlying2
  a2 := Tryz.isAgg2
  z2 := Tryz.sizeOf2
  v2 := Tryz.zeroValue2
  t3 := Tryz.underlying3
  a3 := Tryz.isAgg3
  z3 := Tryz.sizeOf3
  v3 := Tryz.zeroValue3
  t4 := Tryz.underlying4
  a4 := Tryz.isAgg4
  z4 := Tryz.sizeOf4
  v4 := Tryz.zeroValue4
  t5 := Tryz.underlying5
  a5 := Tryz.isAgg5
  z5 := Tryz.sizeOf5
  v5 := Tryz.zeroValue5
  t9 := Tryz.underlying9
  a9 := Tryz.isAgg9
  z9 := Tryz.sizeOf9
  v9 := Tryz.zeroValue9
  t20 := Tryz.underlying20
  a20 := Tryz.isAgg20
  z20 := Tryz.sizeOf20
  v20 := Tryz.zeroValue20
  t37 := Tryz.underlying37
  a37 := Tryz.isAgg37
  z37 := Tryz.sizeOf37
  v37 := Tryz.zeroValue37
  t46 := Tryz.underlying196
  a46 := Tryz.isAgg196
  z46 := Tryz.sizeOf196
  v46 := Tryz.zeroValue196
  t51 := Tryz.underlying142
  a51 := Tryz.isAgg142
  z51 := Tryz.sizeOf142
  v51 := Tryz.zeroValue142
  t53 := Tryz.underlying56
  a53 := Tryz.isAgg56
  z53 := Tryz.sizeOf56
  v53 := Tryz.zeroValue56
  t171 := Tryz.underlying187
  a171 := Tryz.isAgg187
  z171 := Tryz.sizeOf187
  v171 := Tryz.zeroValue187
  t173 := Tryz.underlying190
  a173 := Tryz.isAgg190
  z173 := Tryz.sizeOf190
  v173 := Tryz.zeroValue190
  t212 := Tryz.underlying282
  a212 := Tryz.isAgg282
  z212 := Tryz.sizeOf282
  v212 := Tryz.zeroValue282
  t213 := Tryz.underlying283
  a213 := Tryz.isAgg283
  z213 := Tryz.sizeOf283
  t232 := Tryz.underlying399
  a232 := Tryz.isAgg399
  z232 := Tryz.sizeOf399
  v232 := Tryz.zeroValue399
  t233 := Tryz.underlying400
  a233 := Tryz.isAgg400
  z233 := Tryz.sizeOf400
  v233 := Tryz.zeroValue400
  g17 := by kernel_rfl
  g18 := by kernel_rfl
  g19 := by kernel_rfl
  i0 := by kernel_rfl
  i2 := by kernel_rfl
  i3 := by kernel_rfl
  i4 := by kernel_rfl
  i5 := by kernel_rfl
  i9 := by kernel_rfl
  i20 := by kernel_rfl
  i37 := by kernel_rfl
  i46 := by kernel_rfl
  i51 := by kernel_rfl
  i53 := by kernel_rfl
  i171 := by kernel_rfl
  i173 := by kernel_rfl
  i212 := by kernel_rfl
  i232 := by kernel_rfl
  i233 := by kernel_rfl
  m17 := by kernel_rfl
  m18 := by kernel_rfl
  m19 := by kernel_rfl }
open Go.RowKit Go.Sort Go.Lib in
/-- internal/strconv.Itoa: "Itoa is equivalent to FormatInt(int64(i), 10).": i's decimal numeral, for every int. (LAID: no walk: one application.) -/
theorem Tryz.internal_strconv_Itoa (n : Int) (h0 : -9223372036854775808 ≤ n) (h1 : n ≤ 9223372036854775807) (w : World) (htab : Lib.TabIs Tryz.prog w "internal/strconv.uint64pow10" .u64 Lib.pow10Tab) :
    Calls Tryz.prog 42 #[.int .i64 n] w fun e w' => e = .returned (.string ⟨(Lib.itoa n).toArray⟩) ∧ ∃ k os, w' = grow (w.drewN k) os := Any.internal_strconv_Itoa Tryz.laysM243 n h0 h1 w htab
def Tryz.lays243_ren : Go.Shelf.Ren := ⟨fun | 243 => 42 | 246 => 65 | 283 => 109 | 284 => 110 | 285 => 111 | 286 => 112 | 129 => 149 | 317 => 148 | 318 => 150 | 319 => 151 | 320 => 152 | 337 => 204 | 338 => 205 | n => n, fun | 3 => 3 | 9 => 9 | 2 => 2 | 4 => 4 | 171 => 187 | 0 => 0 | 53 => 56 | 37 => 37 | 5 => 5 | 173 => 190 | 212 => 282 | 51 => 142 | 20 => 20 | 213 => 283 | 46 => 196 | 232 => 399 | 233 => 400 | n => n, fun | 17 => 5 | 18 => 9 | 19 => 10 | n => n⟩
theorem Tryz.lays243 : Go.Proofs.Lays.n243 Tryz.prog Tryz.lays243_ren := {
  mixed := by kernel_rfl
  f129 := Tryz.func149.trans (congrArg some (by kernel_rfl))
  f243 := Tryz.func42.trans (congrArg some (by kernel_rfl))
  f246 := Tryz.func65.trans (congrArg some (by kernel_rfl))
  f283 := Tryz.func109.trans (congrArg some (by kernel_rfl))
  f284 := Tryz.func110.trans (congrArg some (by kernel_rfl))
  f285 := Tryz.func111.trans (congrArg some (by kernel_rfl))
  f286 := Tryz.func112.trans (congrArg some (by kernel_rfl))
  f317 := Tryz.func148.trans (congrArg some (by kernel_rfl))
  f318 := Tryz.func150.trans (congrArg some (by kernel_rfl))
  f319 := Tryz.func151.trans (congrArg some (by kernel_rfl))
  f320 := Tryz.func152.trans (congrArg some (by kernel_rfl))
  f337 := Tryz.func204.trans (congrArg some (by kernel_rfl))
  f338 := Tryz.func205.trans (congrArg some (by kernel_rfl))
  t0 := Tryz.underlying0
  a0 := Tryz.isAgg0
  z0 := Tryz.sizeOf0
  v0 := Tryz.zeroValue0
  t2 := Tryz.underlying2
  a2 := Tryz.isAgg2
  z2 := Tryz.sizeOf2
  v2 := Tryz.zeroValue2
  t3 := Tryz.underlying3
  a3 := Tryz.isAgg3
  z3 := Tryz.sizeOf3
  v3 := Tryz.zeroValue3
  t4 := Tryz.underlying4
  a4 := Tryz.isAgg4
  z4 := Tryz.sizeOf4
  v4 := Tryz.zeroValue4
  t5 := Tryz.underlying5
  a5 := Tryz.isAgg5
  z5 := Tryz.sizeOf5
  v5 := Tryz.zeroValue5
  t9 := Tryz.underlying9
  a9 := Tryz.isAgg9
  z9 := Tryz.sizeOf9
  v9 := Tryz.zeroValue9
  t20 := Tryz.underlying20
  a20 := Tryz.isAgg20
  z20 := Tryz.sizeOf20
  v20 := Tryz.zeroValue20
  t37 := Tryz.underlying37
  a37 := Tryz.isAgg37
  z37 := Tryz.sizeOf37
  v37 := Tryz.zeroValue37
  t46 := Tryz.underlying196
  a46 := Tryz.isAgg196
  z46 := Tryz.sizeOf196
  v46 := Tryz.zeroValue196
  t51 := Tryz.underlying142
  a51 := Tryz.isAgg142
  z51 := Tryz.sizeOf142
  v51 := Tryz.zeroValue142
  t53 := Tryz.underlying56
  a53 := Tryz.isAgg56
  z53 := Tryz.sizeOf56
  v53 := Tryz.zeroValue56
  t171 := Tryz.underlying187
  a171 := Tryz.isAgg187
  z171 := Tryz.sizeOf187
  v171 := Tryz.zeroValue187
  t173 := Tryz.underlying190
  a173 := Tryz.isAgg190
  z173 := Tryz.sizeOf190
  v173 := Tryz.zeroValue190
  t212 := Tryz.underlying282
  a212 := Tryz.isAgg282
  z212 := Tryz.sizeOf282
  v212 := Tryz.zeroValue282
  t213 := Tryz.underlying283
  a213 := Tryz.isAgg283
  z213 := Tryz.sizeOf283
  t232 := Tryz.underlying399
  a232 := Tryz.isAgg399
  z232 := Tryz.sizeOf399
  v232 := Tryz.zeroValue399
  t233 := Tryz.underlying400
  a233 := Tryz.isAgg400
  z233 := Tryz.sizeOf400
  v233 := Tryz.zeroValue400
  g17 := by kernel_rfl
  g18 := by kernel_rfl
  g19 := by kernel_rfl }
open Go.RowKit Go.Sort Go.Lib in
/-- THE ROAD WITHOUT THE TABLE: 0 <= i < 100. (LAID: no walk: one application.) -/
theorem Tryz.internal_strconv_Itoa_small (i : Nat) (hi : i < 100) (w : World) :
    Calls Tryz.prog 42 #[.int .i64 i] w fun e w' => e = .returned (.string ⟨(Lib.decDigits i).toArray⟩) ∧ w' = w := Any.internal_strconv_Itoa_small Tryz.lays243 i hi w
def Tryz.laysM171_ren : Go.Shelf.Ren := ⟨fun | 171 => 25 | 243 => 42 | 246 => 65 | 283 => 109 | 284 => 110 | 285 => 111 | 286 => 112 | 129 => 149 | 317 => 148 | 318 => 150 | 319 => 151 | 320 => 152 | 337 => 204 | 338 => 205 | n => n, fun | 3 => 3 | 9 => 9 | 2 => 2 | 4 => 4 | 171 => 187 | 0 => 0 | 53 => 56 | 37 => 37 | 5 => 5 | 173 => 190 | 212 => 282 | 51 => 142 | 20 => 20 | 213 => 283 | 46 => 196 | 232 => 399 | 233 => 400 | n => n, fun | 17 => 5 | 18 => 9 | 19 => 10 | n => n⟩
theorem Tryz.laysM171 : Go.Proofs.LaysM.n171 Tryz.prog Tryz.laysM171_ren := {
  mixed := by kernel_rfl
  f129 := Tryz.func149.trans (congrArg some (by kernel_rfl))
  f171 := Tryz.func25.trans (congrArg some (by kernel_rfl))
  f243 := Tryz.func42.trans (congrArg some (by kernel_rfl))
  f246 := Tryz.func65.trans (congrArg some (by kernel_rfl))
  f283 := Tryz.func109.trans (congrArg some (by kernel_rfl))
  f284 := Tryz.func110.trans (congrArg some (by kernel_rfl))
  f285 := Tryz.func111.trans (congrArg some (by kernel_rfl))
  f286 := Tryz.func112.trans (congrArg some (by kernel_rfl))
  f317 := Tryz.func148.trans (congrArg some (by kernel_rfl))
  f318 := Tryz.func150.trans (congrArg some (by kernel_rfl))
  f319 := Tryz.func151.trans (congrArg some (by kernel_rfl))
  f320 := Tryz.func152.trans (congrArg some (by kernel_rfl))
  f337 := Tryz.func204.trans (congrArg some (by kernel_rfl))
  f338 := Tryz.func205.trans (congrArg some (by kernel_rfl))
  t0 := Tryz.underlying0
  a0 := Tryz.isAgg0
  z0 := Tryz.sizeOf0
  v0 := Tryz.zeroValue0
  t2 := Tryz.underlying2
  a2 := Tryz.isAgg2
  z2 := Tryz.sizeOf2
  v2 := Tryz.zeroValue2
  t3 := Tryz.underlying3
  a3 := Tryz.isAgg3
  z3 := Tryz.sizeOf3
  v3 := Tryz.zeroValue3
  t4 := Tryz.underlying4
  a4 := Tryz.isAgg4
  z4 := Tryz.sizeOf4
  v4 := Tryz.zeroValue4
  t5 := Tryz.underlying5
  a5 := Tryz.isAgg5
  z5 := Tryz.sizeOf5
  v5 := Tryz.zeroValue5
  t9 := Tryz.underlying9
  a9 := Tryz.isAgg9
  z9 := Tryz.sizeOf9
  v9 := Tryz.zeroValue9
  t20 := Tryz.underlying20
  a20 := Tryz.isAgg20
  z20 := Tryz.sizeOf20
  v20 := Tryz.zeroValue20
  t37 := Tryz.underlying37
  a37 := Tryz.isAgg37
  z37 := Tryz.sizeOf37
  v37 := Tryz.zeroValue37
  t46 := Tryz.underlying196
  a46 := Tryz.isAgg196
  z46 := Tryz.sizeOf196
  v46 := Tryz.zeroValue196
  t51 := Tryz.underlying142
  a51 := Tryz.isAgg142
  z51 := Tryz.sizeOf142
  v51 := Tryz.zeroValue142
  t53 := Tryz.underlying56
  a53 := Tryz.isAgg56
  z53 := Tryz.sizeOf56
  v53 := Tryz.zeroValue56
  t171 := Tryz.underlying187
  a171 := Tryz.isAgg187
  z171 := Tryz.sizeOf187
  v171 := Tryz.zeroValue187
  t173 := Tryz.underlying190
  a173 := Tryz.isAgg190
  z173 := Tryz.sizeOf190
  v173 := Tryz.zeroValue190
  t212 := Tryz.underlying282
  a212 := Tryz.isAgg282
  z212 := Tryz.sizeOf282
  v212 := Tryz.zeroValue282
  t213 := Tryz.underlying283
  a213 := Tryz.isAgg283
  z213 := Tryz.sizeOf283
  t232 := Tryz.underlying399
  a232 := Tryz.isAgg399
  z232 := Tryz.sizeOf399
  v232 := Tryz.zeroValue399
  t233 := Tryz.underlying400
  a233 := Tryz.isAgg400
  z233 := Tryz.sizeOf400
  v233 := Tryz.zeroValue400
  g17 := by kernel_rfl
  g18 := by kernel_rfl
  g19 := by kernel_rfl
  i0 := by kernel_rfl
  i2 := by kernel_rfl
  i3 := by kernel_rfl
  i4 := by kernel_rfl
  i5 := by kernel_rfl
  i9 := by kernel_rfl
  i20 := by kernel_rfl
  i37 := by kernel_rfl
  i46 := by kernel_rfl
  i51 := by kernel_rfl
  i53 := by kernel_rfl
  i171 := by kernel_rfl
  i173 := by kernel_rfl
  i212 := by kernel_rfl
  i232 := by kernel_rfl
  i233 := by kernel_rfl
  m17 := by kernel_rfl
  m18 := by kernel_rfl
  m19 := by kernel_rfl }
open Go.RowKit Go.Sort Go.Lib in
/-- strconv.Itoa: "Itoa is equivalent to FormatInt(int64(i), 10).": i's DECIMAL NUMERAL ('Lib.itoa': a '-' where i is negative, then the digits), FOR EVERY int. The world behind the call: the world before it, new blocks behind the heap (the library's 'var a [24]byte'), draws. (LAID: no walk: one application.) -/
theorem Tryz.strconv_Itoa (n : Int) (h0 : -9223372036854775808 ≤ n) (h1 : n ≤ 9223372036854775807) (w : World) (htab : Lib.TabIs Tryz.prog w "internal/strconv.uint64pow10" .u64 Lib.pow10Tab) :
    Calls Tryz.prog 25 #[.int .i64 n] w fun e w' => e = .returned (.string ⟨(Lib.itoa n).toArray⟩) ∧ ∃ k os, w' = grow (w.drewN k) os := Any.strconv_Itoa Tryz.laysM171 n h0 h1 w htab
def Tryz.lays171_ren : Go.Shelf.Ren := ⟨fun | 171 => 25 | 243 => 42 | 246 => 65 | 283 => 109 | 284 => 110 | 285 => 111 | 286 => 112 | 129 => 149 | 317 => 148 | 318 => 150 | 319 => 151 | 320 => 152 | 337 => 204 | 338 => 205 | n => n, fun | 3 => 3 | 9 => 9 | 2 => 2 | 4 => 4 | 171 => 187 | 0 => 0 | 53 => 56 | 37 => 37 | 5 => 5 | 173 => 190 | 212 => 282 | 51 => 142 | 20 => 20 | 213 => 283 | 46 => 196 | 232 => 399 | 233 => 400 | n => n, fun | 17 => 5 | 18 => 9 | 19 => 10 | n => n⟩
theorem Tryz.lays171 : Go.Proofs.Lays.n171 Tryz.prog Tryz.lays171_ren := {
  mixed := by kernel_rfl
  f129 := Tryz.func149.trans (congrArg some (by kernel_rfl))
  f171 := Tryz.func25.trans (congrArg some (by kernel_rfl))
  f243 := Tryz.func42.trans (congrArg some (by kernel_rfl))
  f246 := Tryz.func65.trans (congrArg some (by kernel_rfl))
  f283 := Tryz.func109.trans (congrArg some (by kernel_rfl))
  f284 := Tryz.func110.trans (congrArg some (by kernel_rfl))
  f285 := Tryz.func111.trans (congrArg some (by kernel_rfl))
  f286 := Tryz.func112.trans (congrArg some (by kernel_rfl))
  f317 := Tryz.func148.trans (congrArg some (by kernel_rfl))
  f318 := Tryz.func150.trans (congrArg some (by kernel_rfl))
  f319 := Tryz.func151.trans (congrArg some (by kernel_rfl))
  f320 := Tryz.func152.trans (congrArg some (by kernel_rfl))
  f337 := Tryz.func204.trans (congrArg some (by kernel_rfl))
  f338 := Tryz.func205.trans (congrArg some (by kernel_rfl))
  t0 := Tryz.underlying0
  a0 := Tryz.isAgg0
  z0 := Tryz.sizeOf0
  v0 := Tryz.zeroValue0
  t2 := Tryz.underlying2
  a2 := Tryz.isAgg2
  z2 := Tryz.sizeOf2
  v2 := Tryz.zeroValue2
  t3 := Tryz.underlying3
  a3 := Tryz.isAgg3
  z3 := Tryz.sizeOf3
  v3 := Tryz.zeroValue3
  t4 := Tryz.underlying4
  a4 := Tryz.isAgg4
  z4 := Tryz.sizeOf4
  v4 := Tryz.zeroValue4
  t5 := Tryz.underlying5
  a5 := Tryz.isAgg5
  z5 := Tryz.sizeOf5
  v5 := Tryz.zeroValue5
  t9 := Tryz.underlying9
  a9 := Tryz.isAgg9
  z9 := Tryz.sizeOf9
  v9 := Tryz.zeroValue9
  t20 := Tryz.underlying20
  a20 := Tryz.isAgg20
  z20 := Tryz.sizeOf20
  v20 := Tryz.zeroValue20
  t37 := Tryz.underlying37
  a37 := Tryz.isAgg37
  z37 := Tryz.sizeOf37
  v37 := Tryz.zeroValue37
  t46 := Tryz.underlying196
  a46 := Tryz.isAgg196
  z46 := Tryz.sizeOf196
  v46 := Tryz.zeroValue196
  t51 := Tryz.underlying142
  a51 := Tryz.isAgg142
  z51 := Tryz.sizeOf142
  v51 := Tryz.zeroValue142
  t53 := Tryz.underlying56
  a53 := Tryz.isAgg56
  z53 := Tryz.sizeOf56
  v53 := Tryz.zeroValue56
  t171 := Tryz.underlying187
  a171 := Tryz.isAgg187
  z171 := Tryz.sizeOf187
  v171 := Tryz.zeroValue187
  t173 := Tryz.underlying190
  a173 := Tryz.isAgg190
  z173 := Tryz.sizeOf190
  v173 := Tryz.zeroValue190
  t212 := Tryz.underlying282
  a212 := Tryz.isAgg282
  z212 := Tryz.sizeOf282
  v212 := Tryz.zeroValue282
  t213 := Tryz.underlying283
  a213 := Tryz.isAgg283
  z213 := Tryz.sizeOf283
  t232 := Tryz.underlying399
  a232 := Tryz.isAgg399
  z232 := Tryz.sizeOf399
  v232 := Tryz.zeroValue399
  t233 := Tryz.underlying400
  a233 := Tryz.isAgg400
  z233 := Tryz.sizeOf400
  v233 := Tryz.zeroValue400
  g17 := by kernel_rfl
  g18 := by kernel_rfl
  g19 := by kernel_rfl }
open Go.RowKit Go.Sort Go.Lib in
/-- THE ROAD WITHOUT THE TABLE: 0 <= i < 100: NO PREMISE ON THE WORLD, AND THE WORLD IS AS IT WAS: a row that keeps its argument in that range need list no table ('laid = []'). (LAID: no walk: one application.) -/
theorem Tryz.strconv_Itoa_small (i : Nat) (hi : i < 100) (w : World) :
    Calls Tryz.prog 25 #[.int .i64 i] w fun e w' => e = .returned (.string ⟨(Lib.decDigits i).toArray⟩) ∧ w' = w := Any.strconv_Itoa_small Tryz.lays171 i hi w
open Go.RowKit in
/-- internal/strconv.Atoi, at a string of 1 to 18 bytes THAT IS NO DECIMAL NUMERAL: 0, AND ErrSyntax (the package's own error number 2). The world behind the call: as it was, or with the one new row that '[]byte(s)' lays. (LAID: no walk: one application.) -/
theorem Tryz.internal_strconv_Atoi_err (s : ByteArray) (hl0 : 1 ≤ s.size) (hl : s.size ≤ 18) (h : Lib.atoi s.data.toList = none) (w : World) :
    Calls Tryz.prog 46 #[.string s] w fun e w' => e = .returned (.tuple #[.int .i64 0, (.iface 149 (.int .i64 2))]) ∧ (w' = w ∨ ∃ t, w' = Lib.bytesWorld w 5 t) := Any.internal_strconv_Atoi_err Tryz.lays244 s hl0 hl h w
def Tryz.lays247_ren : Go.Shelf.Ren := ⟨fun | 247 => 71 | 287 => 117 | 321 => 157 | 322 => 158 | n => n, fun | 9 => 9 | 3 => 3 | 2 => 2 | 75 => 42 | 4 => 4 | 167 => 149 | 5 => 5 | 53 => 56 | 175 => 194 | 46 => 196 | 37 => 37 | 0 => 0 | 21 => 21 | 80 => 46 | n => n, fun | n => n⟩
theorem Tryz.lays247 : Go.Proofs.Lays.n247 Tryz.prog Tryz.lays247_ren := {
  mixed := by kernel_rfl
  f247 := Tryz.func71.trans (congrArg some (by kernel_rfl))
  f287 := Tryz.func117.trans (congrArg some (by kernel_rfl))
  f321 := Tryz.func157.trans (congrArg some (by kernel_rfl))
  f322 := Tryz.func158.trans (congrArg some (by kernel_rfl))
  t0 := Tryz.underlying0
  a0 := Tryz.isAgg0
  z0 := Tryz.sizeOf0
  v0 := Tryz.zeroValue0
  t2 := Tryz.underlying2
  a2 := Tryz.isAgg2
  z2 := Tryz.sizeOf2
  v2 := Tryz.zeroValue2
  t3 := Tryz.underlying3
  a3 := Tryz.isAgg3
  z3 := Tryz.sizeOf3
  v3 := Tryz.zeroValue3
  t4 := Tryz.underlying4
  a4 := Tryz.isAgg4
  z4 := Tryz.sizeOf4
  v4 := Tryz.zeroValue4
  t5 := Tryz.underlying5
  a5 := Tryz.isAgg5
  z5 := Tryz.sizeOf5
  v5 := Tryz.zeroValue5
  t9 := Tryz.underlying9
  a9 := Tryz.isAgg9
  z9 := Tryz.sizeOf9
  v9 := Tryz.zeroValue9
  t21 := Tryz.underlying21
  a21 := Tryz.isAgg21
  z21 := Tryz.sizeOf21
  v21 := Tryz.zeroValue21
  t37 := Tryz.underlying37
  a37 := Tryz.isAgg37
  z37 := Tryz.sizeOf37
  v37 := Tryz.zeroValue37
  t46 := Tryz.underlying196
  a46 := Tryz.isAgg196
  z46 := Tryz.sizeOf196
  v46 := Tryz.zeroValue196
  t53 := Tryz.underlying56
  a53 := Tryz.isAgg56
  z53 := Tryz.sizeOf56
  v53 := Tryz.zeroValue56
  t75 := Tryz.underlying42
  a75 := Tryz.isAgg42
  z75 := Tryz.sizeOf42
  v75 := Tryz.zeroValue42
  t167 := Tryz.underlying149
  a167 := Tryz.isAgg149
  z167 := Tryz.sizeOf149
  v167 := Tryz.zeroValue149
  t175 := Tryz.underlying194
  a175 := Tryz.isAgg194
  z175 := Tryz.sizeOf194
  v175 := Tryz.zeroValue194 }
open Go.RowKit in
/-- internal/strconv.ParseInt at "": 'if s == "" { return 0, ErrSyntax }'. The world is as it was. (LAID: no walk: one application.) -/
theorem Tryz.internal_strconv_ParseInt_empty (base bits : Int) (w : World) :
    Calls Tryz.prog 71 #[.string ⟨#[]⟩, .int .i64 base, .int .i64 bits] w fun e w' => e = .returned (.tuple #[.int .i64 0, (.iface 149 (.int .i64 2))]) ∧ w' = w := Any.internal_strconv_ParseInt_empty Tryz.lays247 base bits w
open Go.RowKit in
/-- internal/strconv.Atoi at "". (LAID: no walk: one application.) -/
theorem Tryz.internal_strconv_Atoi_empty (w : World) :
    Calls Tryz.prog 46 #[.string ⟨#[]⟩] w fun e w' => e = .returned (.tuple #[.int .i64 0, (.iface 149 (.int .i64 2))]) ∧ w' = w := Any.internal_strconv_Atoi_empty Tryz.lays244 w
open Go.RowKit in
/-- internal/strconv.Atoi, AT EVERY STRING OF AT MOST 18 BYTES THAT IS NO DECIMAL NUMERAL: 0, and ErrSyntax. (LAID: no walk: one application.) -/
theorem Tryz.internal_strconv_Atoi_fail (s : ByteArray) (hl : s.size ≤ 18) (h : Lib.atoi s.data.toList = none) (w : World) :
    Calls Tryz.prog 46 #[.string s] w fun e w' => e = .returned (.tuple #[.int .i64 0, (.iface 149 (.int .i64 2))]) ∧ (w' = w ∨ ∃ t, w' = Lib.bytesWorld w 5 t) := Any.internal_strconv_Atoi_fail Tryz.lays244 s hl h w
def Tryz.laysM316_ren : Go.Shelf.Ren := ⟨fun | 316 => 118 | n => n, fun | 9 => 9 | 3 => 3 | 4 => 4 | 37 => 37 | 0 => 0 | 127 => 73 | 5 => 5 | n => n, fun | n => n⟩
theorem Tryz.laysM316 : Go.Proofs.LaysM.n316 Tryz.prog Tryz.laysM316_ren := {
  mixed := by kernel_rfl
  f316 := Tryz.func118.trans (congrArg some (by kernel_rfl))
  t0 := Tryz.underlying0
  a0 := Tryz.isAgg0
  z0 := Tryz.sizeOf0
  v0 := Tryz.zeroValue0
  t3 := Tryz.underlying3
  a3 := Tryz.isAgg3
  z3 := Tryz.sizeOf3
  v3 := Tryz.zeroValue3
  t4 := Tryz.underlying4
  a4 := Tryz.isAgg4
  z4 := Tryz.sizeOf4
  v4 := Tryz.zeroValue4
  t9 := Tryz.underlying9
  a9 := Tryz.isAgg9
  z9 := Tryz.sizeOf9
  v9 := Tryz.zeroValue9
  t37 := Tryz.underlying37
  a37 := Tryz.isAgg37
  z37 := Tryz.sizeOf37
  v37 := Tryz.zeroValue37
  t127 := Tryz.underlying73
  a127 := Tryz.isAgg73
  z127 := Tryz.sizeOf73
  v127 := Tryz.zeroValue73
  t5 := Tryz.underlying5
  a5 := Tryz.isAgg5
  z5 := Tryz.sizeOf5
  v5 := Tryz.zeroValue5
  i0 := by kernel_rfl
  i3 := by kernel_rfl
  i4 := by kernel_rfl
  i5 := by kernel_rfl
  i9 := by kernel_rfl
  i37 := by kernel_rfl
  i127 := by kernel_rfl }
open Go.RowKit in
/-- internal/stringslite.Clone (what strings.Clone calls): "Clone returns a fresh copy of s.": THE SAME BYTES. Of what was there nothing has turned (a new row is laid, and frozen, where s is not empty). (LAID: no walk: one application.) -/
theorem Tryz.stringslite_Clone (s : ByteArray) (w : World) (hlim : s.size ≤ 281474976710656) :
    Calls Tryz.prog 118 #[.string s] w fun e w' => e = .returned (.string s) ∧ Below w.heap.size w w' := Any.stringslite_Clone Tryz.laysM316 s w hlim
def Tryz.laysM279_ren : Go.Shelf.Ren := ⟨fun | 279 => 72 | 316 => 118 | n => n, fun | 9 => 9 | 168 => 152 | 75 => 42 | 210 => 199 | 3 => 3 | 4 => 4 | 37 => 37 | 0 => 0 | 127 => 73 | 80 => 46 | 5 => 5 | n => n, fun | 15 => 3 | n => n⟩
theorem Tryz.laysM279 : Go.Proofs.LaysM.n279 Tryz.prog Tryz.laysM279_ren := {
  mixed := by kernel_rfl
  f279 := Tryz.func72.trans (congrArg some (by kernel_rfl))
  f316 := Tryz.func118.trans (congrArg some (by kernel_rfl))
  t0 := Tryz.underlying0
  a0 := Tryz.isAgg0
  z0 := Tryz.sizeOf0
  v0 := Tryz.zeroValue0
  t3 := Tryz.underlying3
  a3 := Tryz.isAgg3
  z3 := Tryz.sizeOf3
  v3 := Tryz.zeroValue3
  t4 := Tryz.underlying4
  a4 := Tryz.isAgg4
  z4 := Tryz.sizeOf4
  v4 := Tryz.zeroValue4
  t9 := Tryz.underlying9
  a9 := Tryz.isAgg9
  z9 := Tryz.sizeOf9
  v9 := Tryz.zeroValue9
  t37 := Tryz.underlying37
  a37 := Tryz.isAgg37
  z37 := Tryz.sizeOf37
  v37 := Tryz.zeroValue37
  t75 := Tryz.underlying42
  a75 := Tryz.isAgg42
  z75 := Tryz.sizeOf42
  v75 := Tryz.zeroValue42
  t127 := Tryz.underlying73
  a127 := Tryz.isAgg73
  z127 := Tryz.sizeOf73
  v127 := Tryz.zeroValue73
  t168 := Tryz.underlying152
  a168 := Tryz.isAgg152
  z168 := Tryz.sizeOf152
  v168 := Tryz.zeroValue152
  t210 := Tryz.underlying199
  a210 := Tryz.isAgg199
  z210 := Tryz.sizeOf199
  v210 := Tryz.zeroValue199
  g15 := by kernel_rfl
  t5 := Tryz.underlying5
  a5 := Tryz.isAgg5
  z5 := Tryz.sizeOf5
  v5 := Tryz.zeroValue5
  t80 := Tryz.underlying46
  a80 := Tryz.isAgg46
  z80 := Tryz.sizeOf46
  v80 := Tryz.zeroValue46
  i0 := by kernel_rfl
  i3 := by kernel_rfl
  i4 := by kernel_rfl
  i5 := by kernel_rfl
  i9 := by kernel_rfl
  i37 := by kernel_rfl
  i75 := by kernel_rfl
  i80 := by kernel_rfl
  i127 := by kernel_rfl
  i168 := by kernel_rfl
  i210 := by kernel_rfl
  m15 := by kernel_rfl }
open Go.RowKit in
/-- strconv.syntaxError: '&NumError{fn, stringslite.Clone(str), ErrSyntax}': A POINTER TO A NEW BLOCK that holds fn, str's bytes, and what the variable ErrSyntax holds. Of what was there nothing has turned. (LAID: no walk: one application.) -/
theorem Tryz.strconv_syntaxError (fn s : ByteArray) (ev : Value) (w : World) (hlim : s.size ≤ 281474976710656) (hv : w.cell? ⟨3, 0, none⟩ = some ev) (hev : ev = .nilIface ∨ ∃ te pe, ev = .iface te pe) :
    Calls Tryz.prog 72 #[.string fn, .string s] w fun e w' => ∃ N, e = .returned (.pointer (some ⟨N, 0, none⟩)) ∧ w.heap.size ≤ N ∧ w'.heap[N]? = some (.cells #[.string fn, .string s, ev] 199 (0, 0)) ∧ Below w.heap.size w w' := Any.strconv_syntaxError Tryz.laysM279 fn s ev w hlim hv hev
def Tryz.laysC245_ren : Go.Shelf.Ren := ⟨fun | 245 => 47 | 279 => 72 | 280 => 73 | 281 => 74 | 282 => 75 | 316 => 118 | 171 => 25 | 205 => 119 | 243 => 42 | 246 => 65 | 283 => 109 | 284 => 110 | 285 => 111 | 286 => 112 | 129 => 149 | 317 => 148 | 318 => 150 | 319 => 151 | 320 => 152 | 337 => 204 | 338 => 205 | n => n, fun | 9 => 9 | 3 => 3 | 75 => 42 | 167 => 149 | 4 => 4 | 168 => 152 | 210 => 199 | 37 => 37 | 0 => 0 | 127 => 73 | 145 => 289 | 143 => 287 | 2 => 2 | 171 => 187 | 53 => 56 | 5 => 5 | 173 => 190 | 212 => 282 | 51 => 142 | 20 => 20 | 213 => 283 | 46 => 196 | 232 => 399 | 233 => 400 | 80 => 46 | n => n, fun | 15 => 3 | 16 => 4 | 17 => 5 | 18 => 9 | 19 => 10 | n => n⟩
theorem Tryz.laysC245 : Go.Proofs.LaysC.n245 Tryz.prog Tryz.laysC245_ren := {
  mixed := by kernel_rfl
  f129 := Tryz.func149.trans (congrArg some (by kernel_rfl))
  f171 := Tryz.func25.trans (congrArg some (by kernel_rfl))
  f205 := Tryz.func119.trans (congrArg some (by kernel_rfl))
  f243 := Tryz.func42.trans (congrArg some (by kernel_rfl))
  f245 := Tryz.func47.trans (congrArg some (by kernel_rfl))
  f246 := Tryz.func65.trans (congrArg some (by kernel_rfl))
  f279 := Tryz.func72.trans (congrArg some (by kernel_rfl))
  f280 := Tryz.func73.trans (congrArg some (by kernel_rfl))
  f281 := Tryz.func74.trans (congrArg some (by kernel_rfl))
  f282 := Tryz.func75.trans (congrArg some (by kernel_rfl))
  f283 := Tryz.func109.trans (congrArg some (by kernel_rfl))
  f284 := Tryz.func110.trans (congrArg some (by kernel_rfl))
  f285 := Tryz.func111.trans (congrArg some (by kernel_rfl))
  f286 := Tryz.func112.trans (congrArg some (by kernel_rfl))
  f316 := Tryz.func118.trans (congrArg some (by kernel_rfl))
  f317 := Tryz.func148.trans (congrArg some (by kernel_rfl))
  f318 := Tryz.func150.trans (congrArg some (by kernel_rfl))
  f319 := Tryz.func151.trans (congrArg some (by kernel_rfl))
  f320 := Tryz.func152.trans (congrArg some (by kernel_rfl))
  f337 := Tryz.func204.trans (congrArg some (by kernel_rfl))
  f338 := Tryz.func205.trans (congrArg some (by kernel_rfl))
  t0 := Tryz.underlying0
  a0 := Tryz.isAgg0
  z0 := Tryz.sizeOf0
  v0 := Tryz.zeroValue0
  t2 := Tryz.underlying2
  a2 := Tryz.isAgg2
  z2 := Tryz.sizeOf2
  v2 := Tryz.zeroValue2
  t3 := Tryz.underlying3
  a3 := Tryz.isAgg3
  z3 := Tryz.sizeOf3
  v3 := Tryz.zeroValue3
  t4 := Tryz.underlying4
  a4 := Tryz.isAgg4
  z4 := Tryz.sizeOf4
  v4 := Tryz.zeroValue4
  t5 := Tryz.underlying5
  a5 := Tryz.isAgg5
  z5 := Tryz.sizeOf5
  v5 := Tryz.zeroValue5
  t9 := Tryz.underlying9
  a9 := Tryz.isAgg9
  z9 := Tryz.sizeOf9
  v9 := Tryz.zeroValue9
  t20 := Tryz.underlying20
  a20 := Tryz.isAgg20
  z20 := Tryz.sizeOf20
  v20 := Tryz.zeroValue20
  t37 := Tryz.underlying37
  a37 := Tryz.isAgg37
  z37 := Tryz.sizeOf37
  v37 := Tryz.zeroValue37
  t46 := Tryz.underlying196
  a46 := Tryz.isAgg196
  z46 := Tryz.sizeOf196
  v46 := Tryz.zeroValue196
  t51 := Tryz.underlying142
  a51 := Tryz.isAgg142
  z51 := Tryz.sizeOf142
  v51 := Tryz.zeroValue142
  t53 := Tryz.underlying56
  a53 := Tryz.isAgg56
  z53 := Tryz.sizeOf56
  v53 := Tryz.zeroValue56
  t75 := Tryz.underlying42
  a75 := Tryz.isAgg42
  z75 := Tryz.sizeOf42
  v75 := Tryz.zeroValue42
  t127 := Tryz.underlying73
  a127 := Tryz.isAgg73
  z127 := Tryz.sizeOf73
  v127 := Tryz.zeroValue73
  t143 := Tryz.underlying287
  a143 := Tryz.isAgg287
  z143 := Tryz.sizeOf287
  v143 := Tryz.zeroValue287
  t145 := Tryz.underlying289
  a145 := Tryz.isAgg289
  z145 := Tryz.sizeOf289
  v145 := Tryz.zeroValue289
  t167 := Tryz.underlying149
  a167 := Tryz.isAgg149
  z167 := Tryz.sizeOf149
  v167 := Tryz.zeroValue149
  t168 := Tryz.underlying152
  a168 := Tryz.isAgg152
  z168 := Tryz.sizeOf152
  v168 := Tryz.zeroValue152
  t171 := Tryz.underlying187
  a171 := Tryz.isAgg187
  z171 := Tryz.sizeOf187
  v171 := Tryz.zeroValue187
  t173 := Tryz.underlying190
  a173 := Tryz.isAgg190
  z173 := Tryz.sizeOf190
  v173 := Tryz.zeroValue190
  t210 := Tryz.underlying199
  a210 := Tryz.isAgg199
  z210 := Tryz.sizeOf199
  v210 := Tryz.zeroValue199
  t212 := Tryz.underlying282
  a212 := Tryz.isAgg282
  z212 := Tryz.sizeOf282
  v212 := Tryz.zeroValue282
  t213 := Tryz.underlying283
  a213 := Tryz.isAgg283
  z213 := Tryz.sizeOf283
  t232 := Tryz.underlying399
  a232 := Tryz.isAgg399
  z232 := Tryz.sizeOf399
  v232 := Tryz.zeroValue399
  t233 := Tryz.underlying400
  a233 := Tryz.isAgg400
  z233 := Tryz.sizeOf400
  v233 := Tryz.zeroValue400
  g15 := by kernel_rfl
  g16 := by kernel_rfl
  g17 := by kernel_rfl
  g18 := by kernel_rfl
  g19 := by kernel_rfl
  t80 := Tryz.underlying46
  a80 := Tryz.isAgg46
  z80 := Tryz.sizeOf46
  v80 := Tryz.zeroValue46
  i0 := by kernel_rfl
  i2 := by kernel_rfl
  i3 := by kernel_rfl
  i4 := by kernel_rfl
  i5 := by kernel_rfl
  i9 := by kernel_rfl
  i20 := by kernel_rfl
  i37 := by kernel_rfl
  i46 := by kernel_rfl
  i51 := by kernel_rfl
  i53 := by kernel_rfl
  i75 := by kernel_rfl
  i80 := by kernel_rfl
  i127 := by kernel_rfl
  i143 := by kernel_rfl
  i145 := by kernel_rfl
  i167 := by kernel_rfl
  i168 := by kernel_rfl
  i171 := by kernel_rfl
  i173 := by kernel_rfl
  i210 := by kernel_rfl
  i212 := by kernel_rfl
  i232 := by kernel_rfl
  i233 := by kernel_rfl
  m15 := by kernel_rfl
  m16 := by kernel_rfl
  m17 := by kernel_rfl
  m18 := by kernel_rfl
  m19 := by kernel_rfl
  c0 := by kernel_rfl
  c2 := by kernel_rfl
  c3 := by kernel_rfl
  c4 := by kernel_rfl
  c5 := by kernel_rfl
  c9 := by kernel_rfl
  c20 := by kernel_rfl
  c37 := by kernel_rfl
  c46 := by kernel_rfl
  c51 := by kernel_rfl
  c53 := by kernel_rfl
  c75 := by kernel_rfl
  c80 := by kernel_rfl
  c127 := by kernel_rfl
  c143 := by kernel_rfl
  c145 := by kernel_rfl
  c167 := by kernel_rfl
  c168 := by kernel_rfl
  c171 := by kernel_rfl
  c173 := by kernel_rfl
  c210 := by kernel_rfl
  c212 := by kernel_rfl
  c213 := by kernel_rfl
  c232 := by kernel_rfl
  c233 := by kernel_rfl }
open Go.RowKit in
/-- strconv.toError, at the inner package's ErrSyntax: 'syntaxError(fn, s)' as an error: A *NumError IN A NEW BLOCK. (LAID: no walk: one application.) -/
theorem Tryz.strconv_toError_syntax (fn s : ByteArray) (base bits : Int) (ev : Value) (w : World) (hlim : s.size ≤ 281474976710656) (hv : w.cell? ⟨3, 0, none⟩ = some ev) (hev : ev = .nilIface ∨ ∃ te pe, ev = .iface te pe) :
    Calls Tryz.prog 47 #[.string fn, .string s, .int .i64 base, .int .i64 bits, .iface 149 (.int .i64 2)] w fun e w' => ∃ N, e = .returned (.iface 152 (.pointer (some ⟨N, 0, none⟩))) ∧ w.heap.size ≤ N ∧ w'.heap[N]? = some (.cells #[.string fn, .string s, ev] 199 (0, 0)) ∧ Below w.heap.size w w' := Any.strconv_toError_syntax Tryz.laysC245 fn s base bits ev w hlim hv hev
def Tryz.lays321_ren : Go.Shelf.Ren := ⟨fun | 321 => 157 | n => n, fun | 5 => 5 | n => n, fun | n => n⟩
theorem Tryz.lays321 : Go.Proofs.Lays.n321 Tryz.prog Tryz.lays321_ren := {
  mixed := by kernel_rfl
  f321 := Tryz.func157.trans (congrArg some (by kernel_rfl))
  t5 := Tryz.underlying5
  a5 := Tryz.isAgg5
  z5 := Tryz.sizeOf5
  v5 := Tryz.zeroValue5 }
open Go.RowKit in
/-- internal/strconv.lower: 'c | ('x' - 'X')': the bit 32 set. The world is as it was. (LAID: no walk: one application.) -/
theorem Tryz.internal_strconv_lower (c : Int) (w : World) :
    Calls Tryz.prog 157 #[.int .u8 c] w fun e w' => e = .returned (.int .u8 (bits .or .u8 c 32)) ∧ w' = w := Any.internal_strconv_lower Tryz.lays321 c w
def Tryz.lays287_ren : Go.Shelf.Ren := ⟨fun | 287 => 117 | 321 => 157 | 322 => 158 | n => n, fun | 9 => 9 | 3 => 3 | 53 => 56 | 75 => 42 | 4 => 4 | 167 => 149 | 5 => 5 | 46 => 196 | 37 => 37 | 0 => 0 | 21 => 21 | 80 => 46 | n => n, fun | n => n⟩
theorem Tryz.lays287 : Go.Proofs.Lays.n287 Tryz.prog Tryz.lays287_ren := {
  mixed := by kernel_rfl
  f287 := Tryz.func117.trans (congrArg some (by kernel_rfl))
  f321 := Tryz.func157.trans (congrArg some (by kernel_rfl))
  f322 := Tryz.func158.trans (congrArg some (by kernel_rfl))
  t0 := Tryz.underlying0
  a0 := Tryz.isAgg0
  z0 := Tryz.sizeOf0
  v0 := Tryz.zeroValue0
  t3 := Tryz.underlying3
  a3 := Tryz.isAgg3
  z3 := Tryz.sizeOf3
  v3 := Tryz.zeroValue3
  t4 := Tryz.underlying4
  a4 := Tryz.isAgg4
  z4 := Tryz.sizeOf4
  v4 := Tryz.zeroValue4
  t5 := Tryz.underlying5
  a5 := Tryz.isAgg5
  z5 := Tryz.sizeOf5
  v5 := Tryz.zeroValue5
  t9 := Tryz.underlying9
  a9 := Tryz.isAgg9
  z9 := Tryz.sizeOf9
  v9 := Tryz.zeroValue9
  t21 := Tryz.underlying21
  a21 := Tryz.isAgg21
  z21 := Tryz.sizeOf21
  v21 := Tryz.zeroValue21
  t37 := Tryz.underlying37
  a37 := Tryz.isAgg37
  z37 := Tryz.sizeOf37
  v37 := Tryz.zeroValue37
  t46 := Tryz.underlying196
  a46 := Tryz.isAgg196
  z46 := Tryz.sizeOf196
  v46 := Tryz.zeroValue196
  t53 := Tryz.underlying56
  a53 := Tryz.isAgg56
  z53 := Tryz.sizeOf56
  v53 := Tryz.zeroValue56
  t75 := Tryz.underlying42
  a75 := Tryz.isAgg42
  z75 := Tryz.sizeOf42
  v75 := Tryz.zeroValue42
  t167 := Tryz.underlying149
  a167 := Tryz.isAgg149
  z167 := Tryz.sizeOf149
  v167 := Tryz.zeroValue149 }
open Go.RowKit in
/-- internal/strconv.ParseUint(s, 10, 0), s NOT EMPTY: 'Lib.parseUint10 0' OF ITS BYTES: the number; or (0, ErrSyntax); or (the greatest uint64, ErrRange). The world behind the call: the one new row that '[]byte(s)' lays. (LAID: no walk: one application.) -/
theorem Tryz.internal_strconv_ParseUint_10 (t : ByteArray) (hne : t.size ≠ 0) (hmax : t.size ≤ 9223372036854775806) (w : World) :
    Calls Tryz.prog 117 #[.string t, .int .i64 10, .int .i64 0] w fun e w' => e = .returned (Lib.uintTuple 149 (Lib.parseUint10 0 t.data.toList)) ∧ w' = Lib.bytesWorld w 5 t := Any.internal_strconv_ParseUint_10 Tryz.lays287 t hne hmax w
open Go.RowKit in
/-- internal/strconv.ParseUint("", 10, 0): (0, ErrSyntax). The world is as it was. (LAID: no walk: one application.) -/
theorem Tryz.internal_strconv_ParseUint_10_empty (w : World) :
    Calls Tryz.prog 117 #[.string ⟨#[]⟩, .int .i64 10, .int .i64 0] w fun e w' => e = .returned (Lib.uintTuple 149 Go.Lib.NumEnd.syntax) ∧ w' = w := Any.internal_strconv_ParseUint_10_empty Tryz.lays287 w
open Go.RowKit in
/-- internal/strconv.ParseUint(s, 10, 0): 'Lib.parseMag' OF ITS BYTES. The world: as it was (the empty string), or with the one new row that '[]byte(s)' lays. (LAID: no walk: one application.) -/
theorem Tryz.internal_strconv_ParseUint_10_any (t : ByteArray) (hmax : t.size ≤ 9223372036854775806) (w : World) :
    Calls Tryz.prog 117 #[.string t, .int .i64 10, .int .i64 0] w fun e w' => e = .returned (Lib.uintTuple 149 (Lib.parseMag t.data.toList)) ∧ (w' = w ∨ w' = Lib.bytesWorld w 5 t) := Any.internal_strconv_ParseUint_10_any Tryz.lays287 t hmax w
def Tryz.laysC247_ren : Go.Shelf.Ren := ⟨fun | 247 => 71 | 287 => 117 | 321 => 157 | 322 => 158 | n => n, fun | 9 => 9 | 3 => 3 | 2 => 2 | 75 => 42 | 4 => 4 | 167 => 149 | 5 => 5 | 53 => 56 | 175 => 194 | 46 => 196 | 37 => 37 | 0 => 0 | 21 => 21 | 80 => 46 | n => n, fun | n => n⟩
theorem Tryz.laysC247 : Go.Proofs.LaysC.n247 Tryz.prog Tryz.laysC247_ren := {
  mixed := by kernel_rfl
  f247 := Tryz.func71.trans (congrArg some (by kernel_rfl))
  f287 := Tryz.func117.trans (congrArg some (by kernel_rfl))
  f321 := Tryz.func157.trans (congrArg some (by kernel_rfl))
  f322 := Tryz.func158.trans (congrArg some (by kernel_rfl))
  t0 := Tryz.underlying0
  a0 := Tryz.isAgg0
  z0 := Tryz.sizeOf0
  v0 := Tryz.zeroValue0
  t2 := Tryz.underlying2
  a2 := Tryz.isAgg2
  z2 := Tryz.sizeOf2
  v2 := Tryz.zeroValue2
  t3 := Tryz.underlying3
  a3 := Tryz.isAgg3
  z3 := Tryz.sizeOf3
  v3 := Tryz.zeroValue3
  t4 := Tryz.underlying4
  a4 := Tryz.isAgg4
  z4 := Tryz.sizeOf4
  v4 := Tryz.zeroValue4
  t5 := Tryz.underlying5
  a5 := Tryz.isAgg5
  z5 := Tryz.sizeOf5
  v5 := Tryz.zeroValue5
  t9 := Tryz.underlying9
  a9 := Tryz.isAgg9
  z9 := Tryz.sizeOf9
  v9 := Tryz.zeroValue9
  t21 := Tryz.underlying21
  a21 := Tryz.isAgg21
  z21 := Tryz.sizeOf21
  v21 := Tryz.zeroValue21
  t37 := Tryz.underlying37
  a37 := Tryz.isAgg37
  z37 := Tryz.sizeOf37
  v37 := Tryz.zeroValue37
  t46 := Tryz.underlying196
  a46 := Tryz.isAgg196
  z46 := Tryz.sizeOf196
  v46 := Tryz.zeroValue196
  t53 := Tryz.underlying56
  a53 := Tryz.isAgg56
  z53 := Tryz.sizeOf56
  v53 := Tryz.zeroValue56
  t75 := Tryz.underlying42
  a75 := Tryz.isAgg42
  z75 := Tryz.sizeOf42
  v75 := Tryz.zeroValue42
  t167 := Tryz.underlying149
  a167 := Tryz.isAgg149
  z167 := Tryz.sizeOf149
  v167 := Tryz.zeroValue149
  t175 := Tryz.underlying194
  a175 := Tryz.isAgg194
  z175 := Tryz.sizeOf194
  v175 := Tryz.zeroValue194
  t80 := Tryz.underlying46
  a80 := Tryz.isAgg46
  z80 := Tryz.sizeOf46
  v80 := Tryz.zeroValue46
  i0 := by kernel_rfl
  i2 := by kernel_rfl
  i3 := by kernel_rfl
  i4 := by kernel_rfl
  i5 := by kernel_rfl
  i9 := by kernel_rfl
  i21 := by kernel_rfl
  i37 := by kernel_rfl
  i46 := by kernel_rfl
  i53 := by kernel_rfl
  i75 := by kernel_rfl
  i80 := by kernel_rfl
  i167 := by kernel_rfl
  i175 := by kernel_rfl
  c0 := by kernel_rfl
  c2 := by kernel_rfl
  c3 := by kernel_rfl
  c4 := by kernel_rfl
  c5 := by kernel_rfl
  c9 := by kernel_rfl
  c21 := by kernel_rfl
  c37 := by kernel_rfl
  c46 := by kernel_rfl
  c53 := by kernel_rfl
  c75 := by kernel_rfl
  c80 := by kernel_rfl
  c167 := by kernel_rfl
  c175 := by kernel_rfl }
open Go.RowKit in
/-- internal/strconv.ParseInt(s, 10, 0), s NOT EMPTY: 'Lib.atoiAll' OF ITS BYTES: (the number, nil); (0, ErrSyntax); (the greatest or the least int64 by the sign, ErrRange). The world: as it was, or with the one new row that '[]byte(..)' lays. (LAID: no walk: one application.) -/
theorem Tryz.internal_strconv_ParseInt_10 (s : ByteArray) (hne : s.size ≠ 0) (hmax : s.size ≤ 9223372036854775806) (w : World) :
    Calls Tryz.prog 71 #[.string s, .int .i64 10, .int .i64 0] w fun e w' => e = .returned (Lib.intTuple 149 (Lib.atoiSat s.data.toList) (Lib.atoiAll s.data.toList)) ∧ (w' = w ∨ ∃ t, w' = Lib.bytesWorld w 5 t) := Any.internal_strconv_ParseInt_10 Tryz.laysC247 s hne hmax w
def Tryz.laysC244_ren : Go.Shelf.Ren := ⟨fun | 244 => 46 | 247 => 71 | 287 => 117 | 321 => 157 | 322 => 158 | n => n, fun | 9 => 9 | 3 => 3 | 75 => 42 | 4 => 4 | 5 => 5 | 167 => 149 | 37 => 37 | 0 => 0 | 85 => 150 | 2 => 2 | 53 => 56 | 175 => 194 | 46 => 196 | 21 => 21 | 80 => 46 | n => n, fun | n => n⟩
theorem Tryz.laysC244 : Go.Proofs.LaysC.n244 Tryz.prog Tryz.laysC244_ren := {
  mixed := by kernel_rfl
  f244 := Tryz.func46.trans (congrArg some (by kernel_rfl))
  f247 := Tryz.func71.trans (congrArg some (by kernel_rfl))
  f287 := Tryz.func117.trans (congrArg some (by kernel_rfl))
  f321 := Tryz.func157.trans (congrArg some (by kernel_rfl))
  f322 := Tryz.func158.trans (congrArg some (by kernel_rfl))
  t0 := Tryz.underlying0
  a0 := Tryz.isAgg0
  z0 := Tryz.sizeOf0
  v0 := Tryz.zeroValue0
  t2 := Tryz.underlying2
  a2 := Tryz.isAgg2
  z2 := Tryz.sizeOf2
  v2 := Tryz.zeroValue2
  t3 := Tryz.underlying3
  a3 := Tryz.isAgg3
  z3 := Tryz.sizeOf3
  v3 := Tryz.zeroValue3
  t4 := Tryz.underlying4
  a4 := Tryz.isAgg4
  z4 := Tryz.sizeOf4
  v4 := Tryz.zeroValue4
  t5 := Tryz.underlying5
  a5 := Tryz.isAgg5
  z5 := Tryz.sizeOf5
  v5 := Tryz.zeroValue5
  t9 := Tryz.underlying9
  a9 := Tryz.isAgg9
  z9 := Tryz.sizeOf9
  v9 := Tryz.zeroValue9
  t21 := Tryz.underlying21
  a21 := Tryz.isAgg21
  z21 := Tryz.sizeOf21
  v21 := Tryz.zeroValue21
  t37 := Tryz.underlying37
  a37 := Tryz.isAgg37
  z37 := Tryz.sizeOf37
  v37 := Tryz.zeroValue37
  t46 := Tryz.underlying196
  a46 := Tryz.isAgg196
  z46 := Tryz.sizeOf196
  v46 := Tryz.zeroValue196
  t53 := Tryz.underlying56
  a53 := Tryz.isAgg56
  z53 := Tryz.sizeOf56
  v53 := Tryz.zeroValue56
  t75 := Tryz.underlying42
  a75 := Tryz.isAgg42
  z75 := Tryz.sizeOf42
  v75 := Tryz.zeroValue42
  t85 := Tryz.underlying150
  a85 := Tryz.isAgg150
  z85 := Tryz.sizeOf150
  v85 := Tryz.zeroValue150
  t167 := Tryz.underlying149
  a167 := Tryz.isAgg149
  z167 := Tryz.sizeOf149
  v167 := Tryz.zeroValue149
  t175 := Tryz.underlying194
  a175 := Tryz.isAgg194
  z175 := Tryz.sizeOf194
  v175 := Tryz.zeroValue194
  t80 := Tryz.underlying46
  a80 := Tryz.isAgg46
  z80 := Tryz.sizeOf46
  v80 := Tryz.zeroValue46
  i0 := by kernel_rfl
  i2 := by kernel_rfl
  i3 := by kernel_rfl
  i4 := by kernel_rfl
  i5 := by kernel_rfl
  i9 := by kernel_rfl
  i21 := by kernel_rfl
  i37 := by kernel_rfl
  i46 := by kernel_rfl
  i53 := by kernel_rfl
  i75 := by kernel_rfl
  i80 := by kernel_rfl
  i85 := by kernel_rfl
  i167 := by kernel_rfl
  i175 := by kernel_rfl
  c0 := by kernel_rfl
  c2 := by kernel_rfl
  c3 := by kernel_rfl
  c4 := by kernel_rfl
  c5 := by kernel_rfl
  c9 := by kernel_rfl
  c21 := by kernel_rfl
  c37 := by kernel_rfl
  c46 := by kernel_rfl
  c53 := by kernel_rfl
  c75 := by kernel_rfl
  c80 := by kernel_rfl
  c85 := by kernel_rfl
  c167 := by kernel_rfl
  c175 := by kernel_rfl }
open Go.RowKit in
/-- internal/strconv.Atoi, AT EVERY STRING OF 19 BYTES OR MORE: 'Lib.atoiAll' OF ITS BYTES: (the number, nil); (0, ErrSyntax); (the greatest or the least int by the sign, ErrRange). (LAID: no walk: one application.) -/
theorem Tryz.internal_strconv_Atoi_long (s : ByteArray) (h19 : 19 ≤ s.size) (hmax : s.size ≤ 9223372036854775806) (w : World) :
    Calls Tryz.prog 46 #[.string s] w fun e w' => e = .returned (Lib.intTuple 149 (Lib.atoiSat s.data.toList) (Lib.atoiAll s.data.toList)) ∧ (w' = w ∨ ∃ t, w' = Lib.bytesWorld w 5 t) := Any.internal_strconv_Atoi_long Tryz.laysC244 s h19 hmax w
open Go.RowKit in
/-- internal/strconv.Atoi, AT EVERY STRING: 'Lib.atoiAll' OF ITS BYTES: (the number, nil); (0, ErrSyntax); (the greatest or the least int by the sign, ErrRange). The world: as it was, or with the one new row that '[]byte(..)' lays. (LAID: no walk: one application.) -/
theorem Tryz.internal_strconv_Atoi_all (s : ByteArray) (hmax : s.size ≤ 9223372036854775806) (w : World) :
    Calls Tryz.prog 46 #[.string s] w fun e w' => e = .returned (Lib.intTuple 149 (Lib.atoiSat s.data.toList) (Lib.atoiAll s.data.toList)) ∧ (w' = w ∨ ∃ t, w' = Lib.bytesWorld w 5 t) := Any.internal_strconv_Atoi_all Tryz.laysC244 s hmax w
def Tryz.laysM280_ren : Go.Shelf.Ren := ⟨fun | 280 => 73 | 316 => 118 | n => n, fun | 9 => 9 | 168 => 152 | 75 => 42 | 210 => 199 | 3 => 3 | 4 => 4 | 37 => 37 | 0 => 0 | 127 => 73 | 80 => 46 | 5 => 5 | n => n, fun | 16 => 4 | n => n⟩
theorem Tryz.laysM280 : Go.Proofs.LaysM.n280 Tryz.prog Tryz.laysM280_ren := {
  mixed := by kernel_rfl
  f280 := Tryz.func73.trans (congrArg some (by kernel_rfl))
  f316 := Tryz.func118.trans (congrArg some (by kernel_rfl))
  t0 := Tryz.underlying0
  a0 := Tryz.isAgg0
  z0 := Tryz.sizeOf0
  v0 := Tryz.zeroValue0
  t3 := Tryz.underlying3
  a3 := Tryz.isAgg3
  z3 := Tryz.sizeOf3
  v3 := Tryz.zeroValue3
  t4 := Tryz.underlying4
  a4 := Tryz.isAgg4
  z4 := Tryz.sizeOf4
  v4 := Tryz.zeroValue4
  t9 := Tryz.underlying9
  a9 := Tryz.isAgg9
  z9 := Tryz.sizeOf9
  v9 := Tryz.zeroValue9
  t37 := Tryz.underlying37
  a37 := Tryz.isAgg37
  z37 := Tryz.sizeOf37
  v37 := Tryz.zeroValue37
  t75 := Tryz.underlying42
  a75 := Tryz.isAgg42
  z75 := Tryz.sizeOf42
  v75 := Tryz.zeroValue42
  t127 := Tryz.underlying73
  a127 := Tryz.isAgg73
  z127 := Tryz.sizeOf73
  v127 := Tryz.zeroValue73
  t168 := Tryz.underlying152
  a168 := Tryz.isAgg152
  z168 := Tryz.sizeOf152
  v168 := Tryz.zeroValue152
  t210 := Tryz.underlying199
  a210 := Tryz.isAgg199
  z210 := Tryz.sizeOf199
  v210 := Tryz.zeroValue199
  g16 := by kernel_rfl
  t5 := Tryz.underlying5
  a5 := Tryz.isAgg5
  z5 := Tryz.sizeOf5
  v5 := Tryz.zeroValue5
  t80 := Tryz.underlying46
  a80 := Tryz.isAgg46
  z80 := Tryz.sizeOf46
  v80 := Tryz.zeroValue46
  i0 := by kernel_rfl
  i3 := by kernel_rfl
  i4 := by kernel_rfl
  i5 := by kernel_rfl
  i9 := by kernel_rfl
  i37 := by kernel_rfl
  i75 := by kernel_rfl
  i80 := by kernel_rfl
  i127 := by kernel_rfl
  i168 := by kernel_rfl
  i210 := by kernel_rfl
  m16 := by kernel_rfl }
open Go.RowKit in
/-- strconv.rangeError: '&NumError{fn, stringslite.Clone(str), ErrRange}': A POINTER TO A NEW BLOCK that holds fn, str's bytes, and what the variable ErrRange holds. Of what was there nothing has turned. (LAID: no walk: one application.) -/
theorem Tryz.strconv_rangeError (fn s : ByteArray) (ev : Value) (w : World) (hlim : s.size ≤ 281474976710656) (hv : w.cell? ⟨4, 0, none⟩ = some ev) (hev : ev = .nilIface ∨ ∃ te pe, ev = .iface te pe) :
    Calls Tryz.prog 73 #[.string fn, .string s] w fun e w' => ∃ N, e = .returned (.pointer (some ⟨N, 0, none⟩)) ∧ w.heap.size ≤ N ∧ w'.heap[N]? = some (.cells #[.string fn, .string s, ev] 199 (0, 0)) ∧ Below w.heap.size w w' := Any.strconv_rangeError Tryz.laysM280 fn s ev w hlim hv hev
open Go.RowKit in
/-- strconv.toError, at the inner package's ErrRange: 'rangeError(fn, s)' as an error: A *NumError IN A NEW BLOCK. (LAID: no walk: one application.) -/
theorem Tryz.strconv_toError_range (fn s : ByteArray) (base bits : Int) (ev : Value) (w : World) (hlim : s.size ≤ 281474976710656) (hv : w.cell? ⟨4, 0, none⟩ = some ev) (hev : ev = .nilIface ∨ ∃ te pe, ev = .iface te pe) :
    Calls Tryz.prog 47 #[.string fn, .string s, .int .i64 base, .int .i64 bits, .iface 149 (.int .i64 1)] w fun e w' => ∃ N, e = .returned (.iface 152 (.pointer (some ⟨N, 0, none⟩))) ∧ w.heap.size ≤ N ∧ w'.heap[N]? = some (.cells #[.string fn, .string s, ev] 199 (0, 0)) ∧ Below w.heap.size w w' := Any.strconv_toError_range Tryz.laysC245 fn s base bits ev w hlim hv hev
def Tryz.laysC172_ren : Go.Shelf.Ren := ⟨fun | 172 => 31 | 244 => 46 | 245 => 47 | 247 => 71 | 279 => 72 | 280 => 73 | 281 => 74 | 282 => 75 | 287 => 117 | 316 => 118 | 171 => 25 | 205 => 119 | 321 => 157 | 322 => 158 | 243 => 42 | 246 => 65 | 283 => 109 | 284 => 110 | 285 => 111 | 286 => 112 | 129 => 149 | 317 => 148 | 318 => 150 | 319 => 151 | 320 => 152 | 337 => 204 | 338 => 205 | n => n, fun | 9 => 9 | 3 => 3 | 75 => 42 | 76 => 43 | 4 => 4 | 5 => 5 | 167 => 149 | 37 => 37 | 0 => 0 | 85 => 150 | 2 => 2 | 168 => 152 | 53 => 56 | 175 => 194 | 46 => 196 | 210 => 199 | 127 => 73 | 145 => 289 | 143 => 287 | 21 => 21 | 171 => 187 | 173 => 190 | 212 => 282 | 51 => 142 | 20 => 20 | 213 => 283 | 232 => 399 | 233 => 400 | 80 => 46 | n => n, fun | 15 => 3 | 16 => 4 | 17 => 5 | 18 => 9 | 19 => 10 | n => n⟩
theorem Tryz.laysC172 : Go.Proofs.LaysC.n172 Tryz.prog Tryz.laysC172_ren := {
  mixed := by kernel_rfl
  f129 := Tryz.func149.trans (congrArg some (by kernel_rfl))
  f171 := Tryz.func25.trans (congrArg some (by kernel_rfl))
  f172 := Tryz.func31.trans (congrArg some (by kernel_rfl))
  f205 := Tryz.func119.trans (congrArg some (by kernel_rfl))
  f243 := Tryz.func42.trans (congrArg some (by kernel_rfl))
  f244 := Tryz.func46.trans (congrArg some (by kernel_rfl))
  f245 := Tryz.func47.trans (congrArg some (by kernel_rfl))
  f246 := Tryz.func65.trans (congrArg some (by kernel_rfl))
  f247 := Tryz.func71.trans (congrArg some (by kernel_rfl))
  f279 := Tryz.func72.trans (congrArg some (by kernel_rfl))
  f280 := Tryz.func73.trans (congrArg some (by kernel_rfl))
  f281 := Tryz.func74.trans (congrArg some (by kernel_rfl))
  f282 := Tryz.func75.trans (congrArg some (by kernel_rfl))
  f283 := Tryz.func109.trans (congrArg some (by kernel_rfl))
  f284 := Tryz.func110.trans (congrArg some (by kernel_rfl))
  f285 := Tryz.func111.trans (congrArg some (by kernel_rfl))
  f286 := Tryz.func112.trans (congrArg some (by kernel_rfl))
  f287 := Tryz.func117.trans (congrArg some (by kernel_rfl))
  f316 := Tryz.func118.trans (congrArg some (by kernel_rfl))
  f317 := Tryz.func148.trans (congrArg some (by kernel_rfl))
  f318 := Tryz.func150.trans (congrArg some (by kernel_rfl))
  f319 := Tryz.func151.trans (congrArg some (by kernel_rfl))
  f320 := Tryz.func152.trans (congrArg some (by kernel_rfl))
  f321 := Tryz.func157.trans (congrArg some (by kernel_rfl))
  f322 := Tryz.func158.trans (congrArg some (by kernel_rfl))
  f337 := Tryz.func204.trans (congrArg some (by kernel_rfl))
  f338 := Tryz.func205.trans (congrArg some (by kernel_rfl))
  t0 := Tryz.underlying0
  a0 := Tryz.isAgg0
  z0 := Tryz.sizeOf0
  v0 := Tryz.zeroValue0
  t2 := Tryz.underlying2
  a2 := Tryz.isAgg2
  z2 := Tryz.sizeOf2
  v2 := Tryz.zeroValue2
  t3 := Tryz.underlying3
  a3 := Tryz.isAgg3
  z3 := Tryz.sizeOf3
  v3 := Tryz.zeroValue3
  t4 := Tryz.underlying4
  a4 := Tryz.isAgg4
  z4 := Tryz.sizeOf4
  v4 := Tryz.zeroValue4
  t5 := Tryz.underlying5
  a5 := Tryz.isAgg5
  z5 := Tryz.sizeOf5
  v5 := Tryz.zeroValue5
  t9 := Tryz.underlying9
  a9 := Tryz.isAgg9
  z9 := Tryz.sizeOf9
  v9 := Tryz.zeroValue9
  t20 := Tryz.underlying20
  a20 := Tryz.isAgg20
  z20 := Tryz.sizeOf20
  v20 := Tryz.zeroValue20
  t21 := Tryz.underlying21
  a21 := Tryz.isAgg21
  z21 := Tryz.sizeOf21
  v21 := Tryz.zeroValue21
  t37 := Tryz.underlying37
  a37 := Tryz.isAgg37
  z37 := Tryz.sizeOf37
  v37 := Tryz.zeroValue37
  t46 := Tryz.underlying196
  a46 := Tryz.isAgg196
  z46 := Tryz.sizeOf196
  v46 := Tryz.zeroValue196
  t51 := Tryz.underlying142
  a51 := Tryz.isAgg142
  z51 := Tryz.sizeOf142
  v51 := Tryz.zeroValue142
  t53 := Tryz.underlying56
  a53 := Tryz.isAgg56
  z53 := Tryz.sizeOf56
  v53 := Tryz.zeroValue56
  t75 := Tryz.underlying42
  a75 := Tryz.isAgg42
  z75 := Tryz.sizeOf42
  v75 := Tryz.zeroValue42
  t76 := Tryz.underlying43
  a76 := Tryz.isAgg43
  z76 := Tryz.sizeOf43
  v76 := Tryz.zeroValue43
  t85 := Tryz.underlying150
  a85 := Tryz.isAgg150
  z85 := Tryz.sizeOf150
  v85 := Tryz.zeroValue150
  t127 := Tryz.underlying73
  a127 := Tryz.isAgg73
  z127 := Tryz.sizeOf73
  v127 := Tryz.zeroValue73
  t143 := Tryz.underlying287
  a143 := Tryz.isAgg287
  z143 := Tryz.sizeOf287
  v143 := Tryz.zeroValue287
  t145 := Tryz.underlying289
  a145 := Tryz.isAgg289
  z145 := Tryz.sizeOf289
  v145 := Tryz.zeroValue289
  t167 := Tryz.underlying149
  a167 := Tryz.isAgg149
  z167 := Tryz.sizeOf149
  v167 := Tryz.zeroValue149
  t168 := Tryz.underlying152
  a168 := Tryz.isAgg152
  z168 := Tryz.sizeOf152
  v168 := Tryz.zeroValue152
  t171 := Tryz.underlying187
  a171 := Tryz.isAgg187
  z171 := Tryz.sizeOf187
  v171 := Tryz.zeroValue187
  t173 := Tryz.underlying190
  a173 := Tryz.isAgg190
  z173 := Tryz.sizeOf190
  v173 := Tryz.zeroValue190
  t175 := Tryz.underlying194
  a175 := Tryz.isAgg194
  z175 := Tryz.sizeOf194
  v175 := Tryz.zeroValue194
  t210 := Tryz.underlying199
  a210 := Tryz.isAgg199
  z210 := Tryz.sizeOf199
  v210 := Tryz.zeroValue199
  t212 := Tryz.underlying282
  a212 := Tryz.isAgg282
  z212 := Tryz.sizeOf282
  v212 := Tryz.zeroValue282
  t213 := Tryz.underlying283
  a213 := Tryz.isAgg283
  z213 := Tryz.sizeOf283
  t232 := Tryz.underlying399
  a232 := Tryz.isAgg399
  z232 := Tryz.sizeOf399
  v232 := Tryz.zeroValue399
  t233 := Tryz.underlying400
  a233 := Tryz.isAgg400
  z233 := Tryz.sizeOf400
  v233 := Tryz.zeroValue400
  g15 := by kernel_rfl
  g16 := by kernel_rfl
  g17 := by kernel_rfl
  g18 := by kernel_rfl
  g19 := by kernel_rfl
  t80 := Tryz.underlying46
  a80 := Tryz.isAgg46
  z80 := Tryz.sizeOf46
  v80 := Tryz.zeroValue46
  i0 := by kernel_rfl
  i2 := by kernel_rfl
  i3 := by kernel_rfl
  i4 := by kernel_rfl
  i5 := by kernel_rfl
  i9 := by kernel_rfl
  i20 := by kernel_rfl
  i21 := by kernel_rfl
  i37 := by kernel_rfl
  i46 := by kernel_rfl
  i51 := by kernel_rfl
  i53 := by kernel_rfl
  i75 := by kernel_rfl
  i76 := by kernel_rfl
  i80 := by kernel_rfl
  i85 := by kernel_rfl
  i127 := by kernel_rfl
  i143 := by kernel_rfl
  i145 := by kernel_rfl
  i167 := by kernel_rfl
  i168 := by kernel_rfl
  i171 := by kernel_rfl
  i173 := by kernel_rfl
  i175 := by kernel_rfl
  i210 := by kernel_rfl
  i212 := by kernel_rfl
  i232 := by kernel_rfl
  i233 := by kernel_rfl
  m15 := by kernel_rfl
  m16 := by kernel_rfl
  m17 := by kernel_rfl
  m18 := by kernel_rfl
  m19 := by kernel_rfl
  c0 := by kernel_rfl
  c2 := by kernel_rfl
  c3 := by kernel_rfl
  c4 := by kernel_rfl
  c5 := by kernel_rfl
  c9 := by kernel_rfl
  c20 := by kernel_rfl
  c21 := by kernel_rfl
  c37 := by kernel_rfl
  c46 := by kernel_rfl
  c51 := by kernel_rfl
  c53 := by kernel_rfl
  c75 := by kernel_rfl
  c76 := by kernel_rfl
  c80 := by kernel_rfl
  c85 := by kernel_rfl
  c127 := by kernel_rfl
  c143 := by kernel_rfl
  c145 := by kernel_rfl
  c167 := by kernel_rfl
  c168 := by kernel_rfl
  c171 := by kernel_rfl
  c173 := by kernel_rfl
  c175 := by kernel_rfl
  c210 := by kernel_rfl
  c212 := by kernel_rfl
  c213 := by kernel_rfl
  c232 := by kernel_rfl
  c233 := by kernel_rfl }
open Go.RowKit in
/-- strconv.Atoi, AT EVERY STRING THAT SPELLS AN int ('Lib.atoiAll .. = .ok v'; of whatever length: leading zeros count): v, AND NO ERROR. The world: as it was, or with the one new row that '[]byte(..)' lays. (LAID: no walk: one application.) -/
theorem Tryz.strconv_Atoi_ok (s : ByteArray) (hmax : s.size ≤ 9223372036854775806) (v : Int) (h : Lib.atoiAll s.data.toList = .ok v) (w : World) :
    Calls Tryz.prog 31 #[.string s] w fun e w' => e = .returned (.tuple #[.int .i64 v, .nilIface]) ∧ (w' = w ∨ ∃ t, w' = Lib.bytesWorld w 5 t) := Any.strconv_Atoi_ok Tryz.laysC172 s hmax v h w
open Go.RowKit in
/-- strconv.Atoi, AT EVERY STRING THAT IS NO DECIMAL NUMERAL ('.syntax'): 0, AND AN ERROR THAT IS NOT nil: a *NumError in a new block N: {Func: "Atoi", Num: s's bytes, Err: what the variable ErrSyntax holds}. Of what was there nothing has turned. (LAID: no walk: one application.) -/
theorem Tryz.strconv_Atoi_syntax (s : ByteArray) (hlim : s.size ≤ 281474976710656) (h : Lib.atoiAll s.data.toList = Go.Lib.NumEnd.syntax) (ev : Value) (w : World) (hv : w.cell? ⟨3, 0, none⟩ = some ev) (hev : ev = .nilIface ∨ ∃ te pe, ev = .iface te pe) :
    Calls Tryz.prog 31 #[.string s] w fun e w' => ∃ N, e = .returned (.tuple #[.int .i64 (0), .iface 152 (.pointer (some ⟨N, 0, none⟩))]) ∧ w.heap.size ≤ N ∧ w'.heap[N]? = some (.cells #[.string ⟨#[65, 116, 111, 105]⟩, .string s, ev] 199 (0, 0)) ∧ Below w.heap.size w w' := Any.strconv_Atoi_syntax Tryz.laysC172 s hlim h ev w hv hev
open Go.RowKit in
/-- strconv.Atoi, AT EVERY NUMERAL THAT NO int HOLDS ('.range'): THE GREATEST OR THE LEAST int, BY THE SIGN ('Lib.atoiSat'), AND AN ERROR THAT IS NOT nil: a *NumError in a new block N: {Func: "Atoi", Num: s's bytes, Err: what the variable ErrRange holds}. Of what was there nothing has turned. (LAID: no walk: one application.) -/
theorem Tryz.strconv_Atoi_range (s : ByteArray) (hlim : s.size ≤ 281474976710656) (h : Lib.atoiAll s.data.toList = .range) (ev : Value) (w : World) (hv : w.cell? ⟨4, 0, none⟩ = some ev) (hev : ev = .nilIface ∨ ∃ te pe, ev = .iface te pe) :
    Calls Tryz.prog 31 #[.string s] w fun e w' => ∃ N, e = .returned (.tuple #[.int .i64 (Lib.atoiSat s.data.toList), .iface 152 (.pointer (some ⟨N, 0, none⟩))]) ∧ w.heap.size ≤ N ∧ w'.heap[N]? = some (.cells #[.string ⟨#[65, 116, 111, 105]⟩, .string s, ev] 199 (0, 0)) ∧ Below w.heap.size w w' := Any.strconv_Atoi_range Tryz.laysC172 s hlim h ev w hv hev
def Tryz.lays217_ren : Go.Shelf.Ren := ⟨fun | 217 => 43 | 266 => 66 | n => n, fun | 9 => 9 | 5 => 5 | 3 => 3 | n => n, fun | n => n⟩
theorem Tryz.lays217 : Go.Proofs.Lays.n217 Tryz.prog Tryz.lays217_ren := {
  mixed := by kernel_rfl
  f217 := Tryz.func43.trans (congrArg some (by kernel_rfl))
  f266 := Tryz.func66.trans (congrArg some (by kernel_rfl))
  t3 := Tryz.underlying3
  a3 := Tryz.isAgg3
  z3 := Tryz.sizeOf3
  v3 := Tryz.zeroValue3
  t5 := Tryz.underlying5
  a5 := Tryz.isAgg5
  z5 := Tryz.sizeOf5
  v5 := Tryz.zeroValue5
  t9 := Tryz.underlying9
  a9 := Tryz.isAgg9
  z9 := Tryz.sizeOf9
  v9 := Tryz.zeroValue9 }
open Go.RowKit Go.Lib in
/-- internal/stringslite.IndexByte (what strings.IndexByte calls): IT RETURNS 'Lib.indexByte s c'; the world is as it was. (LAID: no walk: one application.) -/
theorem Tryz.stringslite_IndexByte (s : ByteArray) (c : Int) (w : World) :
    Calls Tryz.prog 43 #[.string s, .int .u8 c] w fun e w' => e = .returned (.int .i64 (Lib.indexByte s.data.toList c.toNat.toUInt8)) ∧ w' = w := Any.stringslite_IndexByte Tryz.lays217 s c w
def Tryz.lays224_ren : Go.Shelf.Ren := ⟨fun | 224 => 155 | n => n, fun | 3 => 3 | n => n, fun | n => n⟩
theorem Tryz.lays224 : Go.Proofs.Lays.n224 Tryz.prog Tryz.lays224_ren := {
  mixed := by kernel_rfl
  f224 := Tryz.func155.trans (congrArg some (by kernel_rfl))
  t3 := Tryz.underlying3
  a3 := Tryz.isAgg3
  z3 := Tryz.sizeOf3
  v3 := Tryz.zeroValue3 }
open Go.RowKit Go.Lib in
/-- internal/bytealg.Cutover: "Cutover reports the number of failures of IndexByte we should tolerate before switching over to Index. n is the number of bytes processed so far.": on amd64: (n + 16) / 8. (LAID: no walk: one application.) -/
theorem Tryz.bytealg_Cutover (n : Int) (h0 : 0 ≤ n) (h1 : n < 4611686018427387904) (w : World) :
    Calls Tryz.prog 155 #[.int .i64 n] w fun e w' => e = .returned (.int .i64 ((n + 16) / 8)) ∧ w' = w := Any.bytealg_Cutover Tryz.lays224 n h0 h1 w
def Tryz.lays314_ren : Go.Shelf.Ren := ⟨fun | 314 => 206 | n => n, fun | 9 => 9 | 51 => 142 | 3 => 3 | 4 => 4 | 5 => 5 | 46 => 196 | n => n, fun | n => n⟩
theorem Tryz.lays314 : Go.Proofs.Lays.n314 Tryz.prog Tryz.lays314_ren := {
  mixed := by kernel_rfl
  f314 := Tryz.func206.trans (congrArg some (by kernel_rfl))
  t3 := Tryz.underlying3
  a3 := Tryz.isAgg3
  z3 := Tryz.sizeOf3
  v3 := Tryz.zeroValue3
  t4 := Tryz.underlying4
  a4 := Tryz.isAgg4
  z4 := Tryz.sizeOf4
  v4 := Tryz.zeroValue4
  t5 := Tryz.underlying5
  a5 := Tryz.isAgg5
  z5 := Tryz.sizeOf5
  v5 := Tryz.zeroValue5
  t9 := Tryz.underlying9
  a9 := Tryz.isAgg9
  z9 := Tryz.sizeOf9
  v9 := Tryz.zeroValue9
  t46 := Tryz.underlying196
  a46 := Tryz.isAgg196
  z46 := Tryz.sizeOf196
  v46 := Tryz.zeroValue196
  t51 := Tryz.underlying142
  a51 := Tryz.isAgg142
  z51 := Tryz.sizeOf142
  v51 := Tryz.zeroValue142 }
open Go.RowKit Go.Lib in
/-- hashStr: "returns the hash and the appropriate multiplicative factor for use in Rabin-Karp algorithm": THE HASH OF ALL OF sep, AND 16777619 ^ len(sep), both in uint32. (LAID: no walk: one application.) -/
theorem Tryz.bytealg_hashStr (sep : ByteArray) (hs : sep.size < 4294967281) (w : World) :
    Calls Tryz.prog 206 #[.string sep] w fun e w' => e = .returned (.tuple #[.int .u32 (RK.H sep.data.toList % 4294967296), .int .u32 (16777619 ^ sep.size % 4294967296)]) ∧ w' = w := Any.bytealg_hashStr Tryz.lays314 sep hs w
def Tryz.lays267_ren : Go.Shelf.Ren := ⟨fun | 267 => 156 | 314 => 206 | n => n, fun | 9 => 9 | 3 => 3 | 146 => 349 | 51 => 142 | 4 => 4 | 5 => 5 | 46 => 196 | n => n, fun | n => n⟩
theorem Tryz.lays267 : Go.Proofs.Lays.n267 Tryz.prog Tryz.lays267_ren := {
  mixed := by kernel_rfl
  f267 := Tryz.func156.trans (congrArg some (by kernel_rfl))
  f314 := Tryz.func206.trans (congrArg some (by kernel_rfl))
  t3 := Tryz.underlying3
  a3 := Tryz.isAgg3
  z3 := Tryz.sizeOf3
  v3 := Tryz.zeroValue3
  t4 := Tryz.underlying4
  a4 := Tryz.isAgg4
  z4 := Tryz.sizeOf4
  v4 := Tryz.zeroValue4
  t5 := Tryz.underlying5
  a5 := Tryz.isAgg5
  z5 := Tryz.sizeOf5
  v5 := Tryz.zeroValue5
  t9 := Tryz.underlying9
  a9 := Tryz.isAgg9
  z9 := Tryz.sizeOf9
  v9 := Tryz.zeroValue9
  t46 := Tryz.underlying196
  a46 := Tryz.isAgg196
  z46 := Tryz.sizeOf196
  v46 := Tryz.zeroValue196
  t51 := Tryz.underlying142
  a51 := Tryz.isAgg142
  z51 := Tryz.sizeOf142
  v51 := Tryz.zeroValue142
  t146 := Tryz.underlying349
  a146 := Tryz.isAgg349
  z146 := Tryz.sizeOf349
  v146 := Tryz.zeroValue349 }
open Go.RowKit Go.Lib in
theorem Tryz.bytealg_IndexRabinKarp (s sep : ByteArray) (h1 : 1 ≤ sep.size) (h2 : sep.size ≤ s.size) (hs : s.size < 4294967281) (w : World) :
    Calls Tryz.prog 156 #[.string s, .string sep] w fun e w' => e = .returned (.int .i64 (Lib.index s.data.toList sep.data.toList)) ∧ w' = w := Any.bytealg_IndexRabinKarp Tryz.lays267 s sep h1 h2 hs w
def Tryz.lays219_ren : Go.Shelf.Ren := ⟨fun | 219 => 116 | 217 => 43 | 225 => 154 | 224 => 155 | 267 => 156 | 266 => 66 | 314 => 206 | n => n, fun | 9 => 9 | 3 => 3 | 4 => 4 | 5 => 5 | 46 => 196 | 146 => 349 | 51 => 142 | n => n, fun | 1 => 2 | n => n⟩
theorem Tryz.lays219 : Go.Proofs.Lays.n219 Tryz.prog Tryz.lays219_ren := {
  mixed := by kernel_rfl
  f217 := Tryz.func43.trans (congrArg some (by kernel_rfl))
  f219 := Tryz.func116.trans (congrArg some (by kernel_rfl))
  f224 := Tryz.func155.trans (congrArg some (by kernel_rfl))
  f225 := Tryz.func154.trans (congrArg some (by kernel_rfl))
  f266 := Tryz.func66.trans (congrArg some (by kernel_rfl))
  f267 := Tryz.func156.trans (congrArg some (by kernel_rfl))
  f314 := Tryz.func206.trans (congrArg some (by kernel_rfl))
  t3 := Tryz.underlying3
  a3 := Tryz.isAgg3
  z3 := Tryz.sizeOf3
  v3 := Tryz.zeroValue3
  t4 := Tryz.underlying4
  a4 := Tryz.isAgg4
  z4 := Tryz.sizeOf4
  v4 := Tryz.zeroValue4
  t5 := Tryz.underlying5
  a5 := Tryz.isAgg5
  z5 := Tryz.sizeOf5
  v5 := Tryz.zeroValue5
  t9 := Tryz.underlying9
  a9 := Tryz.isAgg9
  z9 := Tryz.sizeOf9
  v9 := Tryz.zeroValue9
  t46 := Tryz.underlying196
  a46 := Tryz.isAgg196
  z46 := Tryz.sizeOf196
  v46 := Tryz.zeroValue196
  t51 := Tryz.underlying142
  a51 := Tryz.isAgg142
  z51 := Tryz.sizeOf142
  v51 := Tryz.zeroValue142
  t146 := Tryz.underlying349
  a146 := Tryz.isAgg349
  z146 := Tryz.sizeOf349
  v146 := Tryz.zeroValue349
  g1 := by kernel_rfl }
open Go.RowKit Go.Lib in
/-- internal/stringslite.Index (what strings.Index calls) AT A substr OF ONE BYTE c: IT RETURNS 'Lib.indexByte s c'; the world is as it was. (LAID: no walk: one application.) -/
theorem Tryz.stringslite_Index_one (s : ByteArray) (c : UInt8) (w : World) :
    Calls Tryz.prog 116 #[.string s, .string ⟨#[c]⟩] w fun e w' => e = .returned (.int .i64 (Lib.indexByte s.data.toList c)) ∧ w' = w := Any.stringslite_Index_one Tryz.lays219 s c w
open Go.RowKit Go.Lib in
/-- internal/stringslite.Index (what strings.Index calls) AT A substr OF WHATEVER LENGTH: IT RETURNS 'Lib.index s substr'; the world is as it was. 'm': what internal/bytealg.MaxLen holds: whatever. (LAID: no walk: one application.) -/
theorem Tryz.stringslite_Index (s sub : ByteArray) (m : Int) (w : World) (hs : s.size < 4294967281) (hm : w.cell? ⟨2, 0, none⟩ = some (.int .i64 m)) :
    Calls Tryz.prog 116 #[.string s, .string sub] w fun e w' => e = .returned (.int .i64 (Lib.index s.data.toList sub.data.toList)) ∧ w' = w := Any.stringslite_Index Tryz.lays219 s sub m w hs hm
def Tryz.lays143_ren : Go.Shelf.Ren := ⟨fun | 143 => 69 | 219 => 116 | 217 => 43 | 225 => 154 | 224 => 155 | 267 => 156 | 266 => 66 | 314 => 206 | n => n, fun | 9 => 9 | 3 => 3 | 4 => 4 | 5 => 5 | 46 => 196 | 146 => 349 | 51 => 142 | n => n, fun | 1 => 2 | n => n⟩
theorem Tryz.lays143 : Go.Proofs.Lays.n143 Tryz.prog Tryz.lays143_ren := {
  mixed := by kernel_rfl
  f143 := Tryz.func69.trans (congrArg some (by kernel_rfl))
  f217 := Tryz.func43.trans (congrArg some (by kernel_rfl))
  f219 := Tryz.func116.trans (congrArg some (by kernel_rfl))
  f224 := Tryz.func155.trans (congrArg some (by kernel_rfl))
  f225 := Tryz.func154.trans (congrArg some (by kernel_rfl))
  f266 := Tryz.func66.trans (congrArg some (by kernel_rfl))
  f267 := Tryz.func156.trans (congrArg some (by kernel_rfl))
  f314 := Tryz.func206.trans (congrArg some (by kernel_rfl))
  t3 := Tryz.underlying3
  a3 := Tryz.isAgg3
  z3 := Tryz.sizeOf3
  v3 := Tryz.zeroValue3
  t4 := Tryz.underlying4
  a4 := Tryz.isAgg4
  z4 := Tryz.sizeOf4
  v4 := Tryz.zeroValue4
  t5 := Tryz.underlying5
  a5 := Tryz.isAgg5
  z5 := Tryz.sizeOf5
  v5 := Tryz.zeroValue5
  t9 := Tryz.underlying9
  a9 := Tryz.isAgg9
  z9 := Tryz.sizeOf9
  v9 := Tryz.zeroValue9
  t46 := Tryz.underlying196
  a46 := Tryz.isAgg196
  z46 := Tryz.sizeOf196
  v46 := Tryz.zeroValue196
  t51 := Tryz.underlying142
  a51 := Tryz.isAgg142
  z51 := Tryz.sizeOf142
  v51 := Tryz.zeroValue142
  t146 := Tryz.underlying349
  a146 := Tryz.isAgg349
  z146 := Tryz.sizeOf349
  v146 := Tryz.zeroValue349
  g1 := by kernel_rfl }
open Go.RowKit Go.Lib in
/-- strings.Index: "Index returns the index of the first instance of substr in s, or -1 if substr is not present in s.": AT A substr OF ONE BYTE c: IT RETURNS 'Lib.indexByte s c'; the world is as it was. (LAID: no walk: one application.) -/
theorem Tryz.strings_Index_one (s : ByteArray) (c : UInt8) (w : World) :
    Calls Tryz.prog 69 #[.string s, .string ⟨#[c]⟩] w fun e w' => e = .returned (.int .i64 (Lib.indexByte s.data.toList c)) ∧ w' = w := Any.strings_Index_one Tryz.lays143 s c w
open Go.RowKit Go.Lib in
/-- strings.Index: "Index returns the index of the first instance of substr in s, or -1 if substr is not present in s.": IT RETURNS 'Lib.index s substr'; the world is as it was. (LAID: no walk: one application.) -/
theorem Tryz.strings_Index (s sub : ByteArray) (m : Int) (w : World) (hs : s.size < 4294967281) (hm : w.cell? ⟨2, 0, none⟩ = some (.int .i64 m)) :
    Calls Tryz.prog 69 #[.string s, .string sub] w fun e w' => e = .returned (.int .i64 (Lib.index s.data.toList sub.data.toList)) ∧ w' = w := Any.strings_Index Tryz.lays143 s sub m w hs hm
def Tryz.lays138_ren : Go.Shelf.Ren := ⟨fun | 138 => 68 | 195 => 113 | 218 => 115 | 143 => 69 | 219 => 116 | 217 => 43 | 225 => 154 | 224 => 155 | 267 => 156 | 266 => 66 | 314 => 206 | n => n, fun | 9 => 9 | 3 => 3 | 4 => 4 | 5 => 5 | 0 => 0 | 46 => 196 | 146 => 349 | 51 => 142 | n => n, fun | 1 => 2 | n => n⟩
theorem Tryz.lays138 : Go.Proofs.Lays.n138 Tryz.prog Tryz.lays138_ren := {
  mixed := by kernel_rfl
  f138 := Tryz.func68.trans (congrArg some (by kernel_rfl))
  f143 := Tryz.func69.trans (congrArg some (by kernel_rfl))
  f195 := Tryz.func113.trans (congrArg some (by kernel_rfl))
  f217 := Tryz.func43.trans (congrArg some (by kernel_rfl))
  f218 := Tryz.func115.trans (congrArg some (by kernel_rfl))
  f219 := Tryz.func116.trans (congrArg some (by kernel_rfl))
  f224 := Tryz.func155.trans (congrArg some (by kernel_rfl))
  f225 := Tryz.func154.trans (congrArg some (by kernel_rfl))
  f266 := Tryz.func66.trans (congrArg some (by kernel_rfl))
  f267 := Tryz.func156.trans (congrArg some (by kernel_rfl))
  f314 := Tryz.func206.trans (congrArg some (by kernel_rfl))
  t0 := Tryz.underlying0
  a0 := Tryz.isAgg0
  z0 := Tryz.sizeOf0
  v0 := Tryz.zeroValue0
  t3 := Tryz.underlying3
  a3 := Tryz.isAgg3
  z3 := Tryz.sizeOf3
  v3 := Tryz.zeroValue3
  t4 := Tryz.underlying4
  a4 := Tryz.isAgg4
  z4 := Tryz.sizeOf4
  v4 := Tryz.zeroValue4
  t5 := Tryz.underlying5
  a5 := Tryz.isAgg5
  z5 := Tryz.sizeOf5
  v5 := Tryz.zeroValue5
  t9 := Tryz.underlying9
  a9 := Tryz.isAgg9
  z9 := Tryz.sizeOf9
  v9 := Tryz.zeroValue9
  t46 := Tryz.underlying196
  a46 := Tryz.isAgg196
  z46 := Tryz.sizeOf196
  v46 := Tryz.zeroValue196
  t51 := Tryz.underlying142
  a51 := Tryz.isAgg142
  z51 := Tryz.sizeOf142
  v51 := Tryz.zeroValue142
  t146 := Tryz.underlying349
  a146 := Tryz.isAgg349
  z146 := Tryz.sizeOf349
  v146 := Tryz.zeroValue349
  g1 := by kernel_rfl }
open Go.RowKit Go.Lib in
/-- strings.Count AT A substr OF ONE BYTE ('hp'): "Count counts the number of non-overlapping instances of substr in s.": IT RETURNS 'Lib.countByte s (that byte)'; the world is as it was. ✋ NO CONTRACT HERE YET at an empty substr (utf8.RuneCountInString) or at a longer one (a loop over strings.Index). (LAID: no walk: one application.) -/
theorem Tryz.strings_Count_one (s : ByteArray) (c : UInt8) (w : World) :
    Calls Tryz.prog 68 #[.string s, .string ⟨#[c]⟩] w fun e w' => e = .returned (.int .i64 (Lib.countByte s.data.toList c)) ∧ w' = w := Any.strings_Count_one Tryz.lays138 s c w
open Go.RowKit Go.Lib in
/-- strings.Count AT A substr OF TWO BYTES OR MORE: "Count counts the number of non-overlapping instances of substr in s.": IT RETURNS 'Lib.count s substr'; the world is as it was. (LAID: no walk: one application.) -/
theorem Tryz.strings_Count (s sub : ByteArray) (m : Int) (w : World) (hs : s.size < 4294967281) (hm : w.cell? ⟨2, 0, none⟩ = some (.int .i64 m)) (h2 : 2 ≤ sub.size) :
    Calls Tryz.prog 68 #[.string s, .string sub] w fun e w' => e = .returned (.int .i64 (Lib.countB s sub)) ∧ w' = w := Any.strings_Count Tryz.lays138 s sub m w hs hm h2
def Tryz.laysM219_ren : Go.Shelf.Ren := ⟨fun | 219 => 116 | 217 => 43 | 225 => 154 | 224 => 155 | 267 => 156 | 266 => 66 | 314 => 206 | n => n, fun | 9 => 9 | 3 => 3 | 4 => 4 | 5 => 5 | 46 => 196 | 146 => 349 | 51 => 142 | n => n, fun | 1 => 2 | n => n⟩
theorem Tryz.laysM219 : Go.Proofs.LaysM.n219 Tryz.prog Tryz.laysM219_ren := {
  mixed := by kernel_rfl
  f217 := Tryz.func43.trans (congrArg some (by kernel_rfl))
  f219 := Tryz.func116.trans (congrArg some (by kernel_rfl))
  f224 := Tryz.func155.trans (congrArg some (by kernel_rfl))
  f225 := Tryz.func154.trans (congrArg some (by kernel_rfl))
  f266 := Tryz.func66.trans (congrArg some (by kernel_rfl))
  f267 := Tryz.func156.trans (congrArg some (by kernel_rfl))
  f314 := Tryz.func206.trans (congrArg some (by kernel_rfl))
  t3 := Tryz.underlying3
  a3 := Tryz.isAgg3
  z3 := Tryz.sizeOf3
  v3 := Tryz.zeroValue3
  t4 := Tryz.underlying4
  a4 := Tryz.isAgg4
  z4 := Tryz.sizeOf4
  v4 := Tryz.zeroValue4
  t5 := Tryz.underlying5
  a5 := Tryz.isAgg5
  z5 := Tryz.sizeOf5
  v5 := Tryz.zeroValue5
  t9 := Tryz.underlying9
  a9 := Tryz.isAgg9
  z9 := Tryz.sizeOf9
  v9 := Tryz.zeroValue9
  t46 := Tryz.underlying196
  a46 := Tryz.isAgg196
  z46 := Tryz.sizeOf196
  v46 := Tryz.zeroValue196
  t51 := Tryz.underlying142
  a51 := Tryz.isAgg142
  z51 := Tryz.sizeOf142
  v51 := Tryz.zeroValue142
  t146 := Tryz.underlying349
  a146 := Tryz.isAgg349
  z146 := Tryz.sizeOf349
  v146 := Tryz.zeroValue349
  g1 := by kernel_rfl
  i3 := by kernel_rfl
  i4 := by kernel_rfl
  i5 := by kernel_rfl
  i9 := by kernel_rfl
  i46 := by kernel_rfl
  i51 := by kernel_rfl
  i146 := by kernel_rfl
  m1 := by kernel_rfl
  s1_3 := fun w h => Go.Proofs.cell_of_shapedOpen_int (zero := #[.int .i64 0]) (t := 3) h (of_decide_eq_true (by kernel_rfl)) (by kernel_rfl) rfl (by kernel_rfl) (by kernel_rfl) Tryz.underlying3 }
open Go.RowKit Go.Lib in
theorem Tryz.stringslite_Index_shaped (s sub : ByteArray) (w : World) (h : w.ShapedOpen Tryz.prog) (hs : s.size < 4294967281) :
    Calls Tryz.prog 116 #[.string s, .string sub] w fun e w' => e = .returned (.int .i64 (Lib.index s.data.toList sub.data.toList)) ∧ w' = w := Any.stringslite_Index_shaped Tryz.laysM219 s sub w h hs
def Tryz.laysM143_ren : Go.Shelf.Ren := ⟨fun | 143 => 69 | 219 => 116 | 217 => 43 | 225 => 154 | 224 => 155 | 267 => 156 | 266 => 66 | 314 => 206 | n => n, fun | 9 => 9 | 3 => 3 | 4 => 4 | 5 => 5 | 46 => 196 | 146 => 349 | 51 => 142 | n => n, fun | 1 => 2 | n => n⟩
theorem Tryz.laysM143 : Go.Proofs.LaysM.n143 Tryz.prog Tryz.laysM143_ren := {
  mixed := by kernel_rfl
  f143 := Tryz.func69.trans (congrArg some (by kernel_rfl))
  f217 := Tryz.func43.trans (congrArg some (by kernel_rfl))
  f219 := Tryz.func116.trans (congrArg some (by kernel_rfl))
  f224 := Tryz.func155.trans (congrArg some (by kernel_rfl))
  f225 := Tryz.func154.trans (congrArg some (by kernel_rfl))
  f266 := Tryz.func66.trans (congrArg some (by kernel_rfl))
  f267 := Tryz.func156.trans (congrArg some (by kernel_rfl))
  f314 := Tryz.func206.trans (congrArg some (by kernel_rfl))
  t3 := Tryz.underlying3
  a3 := Tryz.isAgg3
  z3 := Tryz.sizeOf3
  v3 := Tryz.zeroValue3
  t4 := Tryz.underlying4
  a4 := Tryz.isAgg4
  z4 := Tryz.sizeOf4
  v4 := Tryz.zeroValue4
  t5 := Tryz.underlying5
  a5 := Tryz.isAgg5
  z5 := Tryz.sizeOf5
  v5 := Tryz.zeroValue5
  t9 := Tryz.underlying9
  a9 := Tryz.isAgg9
  z9 := Tryz.sizeOf9
  v9 := Tryz.zeroValue9
  t46 := Tryz.underlying196
  a46 := Tryz.isAgg196
  z46 := Tryz.sizeOf196
  v46 := Tryz.zeroValue196
  t51 := Tryz.underlying142
  a51 := Tryz.isAgg142
  z51 := Tryz.sizeOf142
  v51 := Tryz.zeroValue142
  t146 := Tryz.underlying349
  a146 := Tryz.isAgg349
  z146 := Tryz.sizeOf349
  v146 := Tryz.zeroValue349
  g1 := by kernel_rfl
  i3 := by kernel_rfl
  i4 := by kernel_rfl
  i5 := by kernel_rfl
  i9 := by kernel_rfl
  i46 := by kernel_rfl
  i51 := by kernel_rfl
  i146 := by kernel_rfl
  m1 := by kernel_rfl
  s1_3 := fun w h => Go.Proofs.cell_of_shapedOpen_int (zero := #[.int .i64 0]) (t := 3) h (of_decide_eq_true (by kernel_rfl)) (by kernel_rfl) rfl (by kernel_rfl) (by kernel_rfl) Tryz.underlying3 }
open Go.RowKit Go.Lib in
theorem Tryz.strings_Index_shaped (s sub : ByteArray) (w : World) (h : w.ShapedOpen Tryz.prog) (hs : s.size < 4294967281) :
    Calls Tryz.prog 69 #[.string s, .string sub] w fun e w' => e = .returned (.int .i64 (Lib.index s.data.toList sub.data.toList)) ∧ w' = w := Any.strings_Index_shaped Tryz.laysM143 s sub w h hs
def Tryz.laysM138_ren : Go.Shelf.Ren := ⟨fun | 138 => 68 | 195 => 113 | 218 => 115 | 143 => 69 | 219 => 116 | 217 => 43 | 225 => 154 | 224 => 155 | 267 => 156 | 266 => 66 | 314 => 206 | n => n, fun | 9 => 9 | 3 => 3 | 4 => 4 | 5 => 5 | 0 => 0 | 46 => 196 | 146 => 349 | 51 => 142 | n => n, fun | 1 => 2 | n => n⟩
theorem Tryz.laysM138 : Go.Proofs.LaysM.n138 Tryz.prog Tryz.laysM138_ren := {
  mixed := by kernel_rfl
  f138 := Tryz.func68.trans (congrArg some (by kernel_rfl))
  f143 := Tryz.func69.trans (congrArg some (by kernel_rfl))
  f195 := Tryz.func113.trans (congrArg some (by kernel_rfl))
  f217 := Tryz.func43.trans (congrArg some (by kernel_rfl))
  f218 := Tryz.func115.trans (congrArg some (by kernel_rfl))
  f219 := Tryz.func116.trans (congrArg some (by kernel_rfl))
  f224 := Tryz.func155.trans (congrArg some (by kernel_rfl))
  f225 := Tryz.func154.trans (congrArg some (by kernel_rfl))
  f266 := Tryz.func66.trans (congrArg some (by kernel_rfl))
  f267 := Tryz.func156.trans (congrArg some (by kernel_rfl))
  f314 := Tryz.func206.trans (congrArg some (by kernel_rfl))
  t0 := Tryz.underlying0
  a0 := Tryz.isAgg0
  z0 := Tryz.sizeOf0
  v0 := Tryz.zeroValue0
  t3 := Tryz.underlying3
  a3 := Tryz.isAgg3
  z3 := Tryz.sizeOf3
  v3 := Tryz.zeroValue3
  t4 := Tryz.underlying4
  a4 := Tryz.isAgg4
  z4 := Tryz.sizeOf4
  v4 := Tryz.zeroValue4
  t5 := Tryz.underlying5
  a5 := Tryz.isAgg5
  z5 := Tryz.sizeOf5
  v5 := Tryz.zeroValue5
  t9 := Tryz.underlying9
  a9 := Tryz.isAgg9
  z9 := Tryz.sizeOf9
  v9 := Tryz.zeroValue9
  t46 := Tryz.underlying196
  a46 := Tryz.isAgg196
  z46 := Tryz.sizeOf196
  v46 := Tryz.zeroValue196
  t51 := Tryz.underlying142
  a51 := Tryz.isAgg142
  z51 := Tryz.sizeOf142
  v51 := Tryz.zeroValue142
  t146 := Tryz.underlying349
  a146 := Tryz.isAgg349
  z146 := Tryz.sizeOf349
  v146 := Tryz.zeroValue349
  g1 := by kernel_rfl
  i0 := by kernel_rfl
  i3 := by kernel_rfl
  i4 := by kernel_rfl
  i5 := by kernel_rfl
  i9 := by kernel_rfl
  i46 := by kernel_rfl
  i51 := by kernel_rfl
  i146 := by kernel_rfl
  m1 := by kernel_rfl
  s1_3 := fun w h => Go.Proofs.cell_of_shapedOpen_int (zero := #[.int .i64 0]) (t := 3) h (of_decide_eq_true (by kernel_rfl)) (by kernel_rfl) rfl (by kernel_rfl) (by kernel_rfl) Tryz.underlying3 }
open Go.RowKit Go.Lib in
theorem Tryz.strings_Count_shaped (s sub : ByteArray) (w : World) (h : w.ShapedOpen Tryz.prog) (hs : s.size < 4294967281) (h2 : 2 ≤ sub.size) :
    Calls Tryz.prog 68 #[.string s, .string sub] w fun e w' => e = .returned (.int .i64 (Lib.countB s sub)) ∧ w' = w := Any.strings_Count_shaped Tryz.laysM138 s sub w h hs h2
def Tryz.lays207_ren : Go.Shelf.Ren := ⟨fun | 207 => 70 | n => n, fun | 9 => 9 | 4 => 4 | 3 => 3 | n => n, fun | n => n⟩
theorem Tryz.lays207 : Go.Proofs.Lays.n207 Tryz.prog Tryz.lays207_ren := {
  mixed := by kernel_rfl
  f207 := Tryz.func70.trans (congrArg some (by kernel_rfl))
  t3 := Tryz.underlying3
  a3 := Tryz.isAgg3
  z3 := Tryz.sizeOf3
  v3 := Tryz.zeroValue3
  t4 := Tryz.underlying4
  a4 := Tryz.isAgg4
  z4 := Tryz.sizeOf4
  v4 := Tryz.zeroValue4
  t9 := Tryz.underlying9
  a9 := Tryz.isAgg9
  z9 := Tryz.sizeOf9
  v9 := Tryz.zeroValue9 }
open Go.RowKit Go.Lib in
/-- internal/stringslite.HasSuffix (what strings.HasSuffix calls). (LAID: no walk: one application.) -/
theorem Tryz.stringslite_HasSuffix (s p : ByteArray) (w : World) (hs : s.size ≤ 9223372036854775807) :
    Calls Tryz.prog 70 #[.string s, .string p] w fun e w' => e = .returned (.bool (Lib.hasSuffix s.data.toList p.data.toList)) ∧ w' = w := Any.stringslite_HasSuffix Tryz.lays207 s p w hs
def Tryz.lays209_ren : Go.Shelf.Ren := ⟨fun | 209 => 45 | 207 => 70 | n => n, fun | 9 => 9 | 4 => 4 | 3 => 3 | n => n, fun | n => n⟩
theorem Tryz.lays209 : Go.Proofs.Lays.n209 Tryz.prog Tryz.lays209_ren := {
  mixed := by kernel_rfl
  f207 := Tryz.func70.trans (congrArg some (by kernel_rfl))
  f209 := Tryz.func45.trans (congrArg some (by kernel_rfl))
  t3 := Tryz.underlying3
  a3 := Tryz.isAgg3
  z3 := Tryz.sizeOf3
  v3 := Tryz.zeroValue3
  t4 := Tryz.underlying4
  a4 := Tryz.isAgg4
  z4 := Tryz.sizeOf4
  v4 := Tryz.zeroValue4
  t9 := Tryz.underlying9
  a9 := Tryz.isAgg9
  z9 := Tryz.sizeOf9
  v9 := Tryz.zeroValue9 }
open Go.RowKit Go.Lib in
/-- internal/stringslite.TrimSuffix (what strings.TrimSuffix calls). (LAID: no walk: one application.) -/
theorem Tryz.stringslite_TrimSuffix (s p : ByteArray) (w : World) (hs : s.size ≤ 9223372036854775807) :
    Calls Tryz.prog 45 #[.string s, .string p] w fun e w' => e = .returned (.string ⟨(Lib.trimSuffix s.data.toList p.data.toList).toArray⟩) ∧ w' = w := Any.stringslite_TrimSuffix Tryz.lays209 s p w hs
def Tryz.lays102_ren : Go.Shelf.Ren := ⟨fun | 102 => 30 | 209 => 45 | 207 => 70 | n => n, fun | 9 => 9 | 4 => 4 | 3 => 3 | n => n, fun | n => n⟩
theorem Tryz.lays102 : Go.Proofs.Lays.n102 Tryz.prog Tryz.lays102_ren := {
  mixed := by kernel_rfl
  f102 := Tryz.func30.trans (congrArg some (by kernel_rfl))
  f207 := Tryz.func70.trans (congrArg some (by kernel_rfl))
  f209 := Tryz.func45.trans (congrArg some (by kernel_rfl))
  t3 := Tryz.underlying3
  a3 := Tryz.isAgg3
  z3 := Tryz.sizeOf3
  v3 := Tryz.zeroValue3
  t4 := Tryz.underlying4
  a4 := Tryz.isAgg4
  z4 := Tryz.sizeOf4
  v4 := Tryz.zeroValue4
  t9 := Tryz.underlying9
  a9 := Tryz.isAgg9
  z9 := Tryz.sizeOf9
  v9 := Tryz.zeroValue9 }
open Go.RowKit Go.Lib in
/-- strings.TrimSuffix: "TrimSuffix returns s without the provided trailing suffix string. If s doesn't end with suffix, s is returned unchanged.": IT RETURNS 'Lib.trimSuffix s suffix'; the world is as it was. (LAID: no walk: one application.) -/
theorem Tryz.strings_TrimSuffix (s p : ByteArray) (w : World) (hs : s.size ≤ 9223372036854775807) :
    Calls Tryz.prog 30 #[.string s, .string p] w fun e w' => e = .returned (.string ⟨(Lib.trimSuffix s.data.toList p.data.toList).toArray⟩) ∧ w' = w := Any.strings_TrimSuffix Tryz.lays102 s p w hs
open Go.RowKit Go.Lib in
/-- strings.Count at whatever sep that is not empty: the two roads under one statement. (LAID: no walk: one application.) -/
theorem Tryz.strings_Count_any (s sep : ByteArray) (m : Int) (w : World) (hs : s.size < 4294967281) (hm : w.cell? ⟨2, 0, none⟩ = some (.int .i64 m)) (h1 : 1 ≤ sep.size) :
    Calls Tryz.prog 68 #[.string s, .string sep] w fun e w' => e = .returned (.int .i64 (Lib.countB s sep)) ∧ w' = w := Any.strings_Count_any Tryz.lays138 s sep m w hs hm h1
def Tryz.lays221_ren : Go.Shelf.Ren := ⟨fun | 221 => 44 | 268 => 67 | 138 => 68 | 143 => 69 | 195 => 113 | 197 => 114 | 218 => 115 | 219 => 116 | 260 => 153 | 217 => 43 | 225 => 154 | 224 => 155 | 267 => 156 | 266 => 66 | 314 => 206 | n => n, fun | 9 => 9 | 3 => 3 | 31 => 70 | 4 => 4 | 0 => 0 | 105 => 192 | 21 => 21 | 5 => 5 | 46 => 196 | 119 => 88 | 139 => 348 | 138 => 347 | 146 => 349 | 51 => 142 | n => n, fun | 1 => 2 | 3 => 6 | 4 => 7 | n => n⟩
theorem Tryz.lays221 : Go.Proofs.Lays.n221 Tryz.prog Tryz.lays221_ren := {
  mixed := by kernel_rfl
  f138 := Tryz.func68.trans (congrArg some (by kernel_rfl))
  f143 := Tryz.func69.trans (congrArg some (by kernel_rfl))
  f195 := Tryz.func113.trans (congrArg some (by kernel_rfl))
  f197 := Tryz.func114.trans (congrArg some (by kernel_rfl))
  f217 := Tryz.func43.trans (congrArg some (by kernel_rfl))
  f218 := Tryz.func115.trans (congrArg some (by kernel_rfl))
  f219 := Tryz.func116.trans (congrArg some (by kernel_rfl))
  f221 := Tryz.func44.trans (congrArg some (by kernel_rfl))
  f224 := Tryz.func155.trans (congrArg some (by kernel_rfl))
  f225 := Tryz.func154.trans (congrArg some (by kernel_rfl))
  f260 := Tryz.func153.trans (congrArg some (by kernel_rfl))
  f266 := Tryz.func66.trans (congrArg some (by kernel_rfl))
  f267 := Tryz.func156.trans (congrArg some (by kernel_rfl))
  f268 := Tryz.func67.trans (congrArg some (by kernel_rfl))
  f314 := Tryz.func206.trans (congrArg some (by kernel_rfl))
  t0 := Tryz.underlying0
  a0 := Tryz.isAgg0
  z0 := Tryz.sizeOf0
  v0 := Tryz.zeroValue0
  t3 := Tryz.underlying3
  a3 := Tryz.isAgg3
  z3 := Tryz.sizeOf3
  v3 := Tryz.zeroValue3
  t4 := Tryz.underlying4
  a4 := Tryz.isAgg4
  z4 := Tryz.sizeOf4
  v4 := Tryz.zeroValue4
  t5 := Tryz.underlying5
  a5 := Tryz.isAgg5
  z5 := Tryz.sizeOf5
  v5 := Tryz.zeroValue5
  t9 := Tryz.underlying9
  a9 := Tryz.isAgg9
  z9 := Tryz.sizeOf9
  v9 := Tryz.zeroValue9
  t21 := Tryz.underlying21
  a21 := Tryz.isAgg21
  z21 := Tryz.sizeOf21
  v21 := Tryz.zeroValue21
  t31 := Tryz.underlying70
  a31 := Tryz.isAgg70
  z31 := Tryz.sizeOf70
  v31 := Tryz.zeroValue70
  t46 := Tryz.underlying196
  a46 := Tryz.isAgg196
  z46 := Tryz.sizeOf196
  v46 := Tryz.zeroValue196
  t51 := Tryz.underlying142
  a51 := Tryz.isAgg142
  z51 := Tryz.sizeOf142
  v51 := Tryz.zeroValue142
  t105 := Tryz.underlying192
  a105 := Tryz.isAgg192
  z105 := Tryz.sizeOf192
  v105 := Tryz.zeroValue192
  t119 := Tryz.underlying88
  a119 := Tryz.isAgg88
  z119 := Tryz.sizeOf88
  t138 := Tryz.underlying347
  a138 := Tryz.isAgg347
  z138 := Tryz.sizeOf347
  v138 := Tryz.zeroValue347
  t139 := Tryz.underlying348
  a139 := Tryz.isAgg348
  z139 := Tryz.sizeOf348
  v139 := Tryz.zeroValue348
  t146 := Tryz.underlying349
  a146 := Tryz.isAgg349
  z146 := Tryz.sizeOf349
  v146 := Tryz.zeroValue349
  g1 := by kernel_rfl
  g3 := by kernel_rfl
  g4 := by kernel_rfl }
open Go.RowKit Go.Lib in
theorem Tryz.strings_genSplit (s sep : ByteArray) (sv : Nat) (n : Int) (N : Nat) (m : Int) (w : World) (hs : s.size < 4294967281) (hm : w.cell? ⟨2, 0, none⟩ = some (.int .i64 m)) (h1 : 1 ≤ sep.size) (hsv : sv ≤ sep.size) (hn0 : n ≠ 0) (hn63 : n ≤ 9223372036854775807) (hN : (N : Int) = min (if n < 0 then (Lib.countB s sep : Int) + 1 else n) ((s.size : Int) + 1)) :
    Calls Tryz.prog 44 #[.string s, .string sep, .int .i64 sv, .int .i64 n] w fun e w' =>
      e = .returned (.slice (some ⟨w.heap.size, 0, none⟩) (Lib.splitB sep sv (N - 1) s).length N) ∧ w' = w.alloc (.cells (Lib.cellsOf (Lib.splitB sep sv (N - 1) s) N) 9) := Any.strings_genSplit Tryz.lays221 (by kernel_rfl) s sep sv n N m w hs hm h1 hsv hn0 hn63 hN
def Tryz.lays146_ren : Go.Shelf.Ren := ⟨fun | 146 => 29 | 221 => 44 | 268 => 67 | 138 => 68 | 143 => 69 | 195 => 113 | 197 => 114 | 218 => 115 | 219 => 116 | 260 => 153 | 217 => 43 | 225 => 154 | 224 => 155 | 267 => 156 | 266 => 66 | 314 => 206 | n => n, fun | 9 => 9 | 31 => 70 | 3 => 3 | 4 => 4 | 0 => 0 | 105 => 192 | 21 => 21 | 5 => 5 | 46 => 196 | 119 => 88 | 139 => 348 | 138 => 347 | 146 => 349 | 51 => 142 | n => n, fun | 1 => 2 | 3 => 6 | 4 => 7 | n => n⟩
theorem Tryz.lays146 : Go.Proofs.Lays.n146 Tryz.prog Tryz.lays146_ren := {
  mixed := by kernel_rfl
  f138 := Tryz.func68.trans (congrArg some (by kernel_rfl))
  f143 := Tryz.func69.trans (congrArg some (by kernel_rfl))
  f146 := Tryz.func29.trans (congrArg some (by kernel_rfl))
  f195 := Tryz.func113.trans (congrArg some (by kernel_rfl))
  f197 := Tryz.func114.trans (congrArg some (by kernel_rfl))
  f217 := Tryz.func43.trans (congrArg some (by kernel_rfl))
  f218 := Tryz.func115.trans (congrArg some (by kernel_rfl))
  f219 := Tryz.func116.trans (congrArg some (by kernel_rfl))
  f221 := Tryz.func44.trans (congrArg some (by kernel_rfl))
  f224 := Tryz.func155.trans (congrArg some (by kernel_rfl))
  f225 := Tryz.func154.trans (congrArg some (by kernel_rfl))
  f260 := Tryz.func153.trans (congrArg some (by kernel_rfl))
  f266 := Tryz.func66.trans (congrArg some (by kernel_rfl))
  f267 := Tryz.func156.trans (congrArg some (by kernel_rfl))
  f268 := Tryz.func67.trans (congrArg some (by kernel_rfl))
  f314 := Tryz.func206.trans (congrArg some (by kernel_rfl))
  t0 := Tryz.underlying0
  a0 := Tryz.isAgg0
  z0 := Tryz.sizeOf0
  v0 := Tryz.zeroValue0
  t3 := Tryz.underlying3
  a3 := Tryz.isAgg3
  z3 := Tryz.sizeOf3
  v3 := Tryz.zeroValue3
  t4 := Tryz.underlying4
  a4 := Tryz.isAgg4
  z4 := Tryz.sizeOf4
  v4 := Tryz.zeroValue4
  t5 := Tryz.underlying5
  a5 := Tryz.isAgg5
  z5 := Tryz.sizeOf5
  v5 := Tryz.zeroValue5
  t9 := Tryz.underlying9
  a9 := Tryz.isAgg9
  z9 := Tryz.sizeOf9
  v9 := Tryz.zeroValue9
  t21 := Tryz.underlying21
  a21 := Tryz.isAgg21
  z21 := Tryz.sizeOf21
  v21 := Tryz.zeroValue21
  t31 := Tryz.underlying70
  a31 := Tryz.isAgg70
  z31 := Tryz.sizeOf70
  v31 := Tryz.zeroValue70
  t46 := Tryz.underlying196
  a46 := Tryz.isAgg196
  z46 := Tryz.sizeOf196
  v46 := Tryz.zeroValue196
  t51 := Tryz.underlying142
  a51 := Tryz.isAgg142
  z51 := Tryz.sizeOf142
  v51 := Tryz.zeroValue142
  t105 := Tryz.underlying192
  a105 := Tryz.isAgg192
  z105 := Tryz.sizeOf192
  v105 := Tryz.zeroValue192
  t119 := Tryz.underlying88
  a119 := Tryz.isAgg88
  z119 := Tryz.sizeOf88
  t138 := Tryz.underlying347
  a138 := Tryz.isAgg347
  z138 := Tryz.sizeOf347
  v138 := Tryz.zeroValue347
  t139 := Tryz.underlying348
  a139 := Tryz.isAgg348
  z139 := Tryz.sizeOf348
  v139 := Tryz.zeroValue348
  t146 := Tryz.underlying349
  a146 := Tryz.isAgg349
  z146 := Tryz.sizeOf349
  v146 := Tryz.zeroValue349
  g1 := by kernel_rfl
  g3 := by kernel_rfl
  g4 := by kernel_rfl }
open Go.RowKit Go.Lib in
/-- strings.Split. (LAID: no walk: one application.) -/
theorem Tryz.strings_Split (s sep : ByteArray) (m : Int) (w : World) (hs : s.size < 4294967281) (hm : w.cell? ⟨2, 0, none⟩ = some (.int .i64 m)) (h1 : 1 ≤ sep.size) :
    Calls Tryz.prog 29 #[.string s, .string sep] w fun e w' =>
      e = .returned (.slice (some ⟨w.heap.size, 0, none⟩) (Lib.countB s sep + 1) (Lib.countB s sep + 1)) ∧ w' = w.alloc (.cells ((Lib.splitB sep 0 (Lib.countB s sep) s).map Value.string).toArray 9) := Any.strings_Split Tryz.lays146 (by kernel_rfl) s sep m w hs hm h1
def Tryz.lays157_ren : Go.Shelf.Ren := ⟨fun | 157 => 23 | 229 => 39 | 199 => 40 | 261 => 64 | 311 => 107 | 312 => 108 | n => n, fun | 9 => 9 | 31 => 70 | 3 => 3 | 5 => 5 | 4 => 4 | 119 => 88 | 0 => 0 | 40 => 90 | 152 => 139 | 21 => 21 | 154 => 141 | 51 => 142 | 141 => 144 | 196 => 179 | 193 => 176 | 198 => 182 | 49 => 180 | 194 => 177 | 201 => 185 | 226 => 279 | 46 => 196 | 227 => 280 | n => n, fun | 0 => 0 | 6 => 1 | n => n⟩
theorem Tryz.lays157 : Go.Proofs.Lays.n157 Tryz.prog Tryz.lays157_ren := {
  mixed := by kernel_rfl
  f157 := Tryz.func23.trans (congrArg some (by kernel_rfl))
  f199 := Tryz.func40.trans (congrArg some (by kernel_rfl))
  f229 := Tryz.func39.trans (congrArg some (by kernel_rfl))
  f261 := Tryz.func64.trans (congrArg some (by kernel_rfl))
  f311 := Tryz.func107.trans (congrArg some (by kernel_rfl))
  f312 := Tryz.func108.trans (congrArg some (by kernel_rfl))
  t0 := Tryz.underlying0
  a0 := Tryz.isAgg0
  z0 := Tryz.sizeOf0
  v0 := Tryz.zeroValue0
  t3 := Tryz.underlying3
  a3 := Tryz.isAgg3
  z3 := Tryz.sizeOf3
  v3 := Tryz.zeroValue3
  t4 := Tryz.underlying4
  a4 := Tryz.isAgg4
  z4 := Tryz.sizeOf4
  v4 := Tryz.zeroValue4
  t5 := Tryz.underlying5
  a5 := Tryz.isAgg5
  z5 := Tryz.sizeOf5
  v5 := Tryz.zeroValue5
  t9 := Tryz.underlying9
  a9 := Tryz.isAgg9
  z9 := Tryz.sizeOf9
  v9 := Tryz.zeroValue9
  t21 := Tryz.underlying21
  a21 := Tryz.isAgg21
  z21 := Tryz.sizeOf21
  v21 := Tryz.zeroValue21
  t31 := Tryz.underlying70
  a31 := Tryz.isAgg70
  z31 := Tryz.sizeOf70
  v31 := Tryz.zeroValue70
  t40 := Tryz.underlying90
  a40 := Tryz.isAgg90
  z40 := Tryz.sizeOf90
  v40 := Tryz.zeroValue90
  t46 := Tryz.underlying196
  a46 := Tryz.isAgg196
  z46 := Tryz.sizeOf196
  v46 := Tryz.zeroValue196
  t49 := Tryz.underlying180
  a49 := Tryz.isAgg180
  z49 := Tryz.sizeOf180
  v49 := Tryz.zeroValue180
  t51 := Tryz.underlying142
  a51 := Tryz.isAgg142
  z51 := Tryz.sizeOf142
  v51 := Tryz.zeroValue142
  t119 := Tryz.underlying88
  a119 := Tryz.isAgg88
  z119 := Tryz.sizeOf88
  t141 := Tryz.underlying144
  a141 := Tryz.isAgg144
  z141 := Tryz.sizeOf144
  v141 := Tryz.zeroValue144
  t152 := Tryz.underlying139
  a152 := Tryz.isAgg139
  z152 := Tryz.sizeOf139
  v152 := Tryz.zeroValue139
  t154 := Tryz.underlying141
  a154 := Tryz.isAgg141
  z154 := Tryz.sizeOf141
  v154 := Tryz.zeroValue141
  t193 := Tryz.underlying176
  a193 := Tryz.isAgg176
  z193 := Tryz.sizeOf176
  v193 := Tryz.zeroValue176
  t194 := Tryz.underlying177
  a194 := Tryz.isAgg177
  z194 := Tryz.sizeOf177
  v194 := Tryz.zeroValue177
  t196 := Tryz.underlying179
  a196 := Tryz.isAgg179
  z196 := Tryz.sizeOf179
  v196 := Tryz.zeroValue179
  t198 := Tryz.underlying182
  a198 := Tryz.isAgg182
  z198 := Tryz.sizeOf182
  v198 := Tryz.zeroValue182
  t201 := Tryz.underlying185
  a201 := Tryz.isAgg185
  z201 := Tryz.sizeOf185
  v201 := Tryz.zeroValue185
  t226 := Tryz.underlying279
  a226 := Tryz.isAgg279
  z226 := Tryz.sizeOf279
  v226 := Tryz.zeroValue279
  t227 := Tryz.underlying280
  a227 := Tryz.isAgg280
  z227 := Tryz.sizeOf280
  v227 := Tryz.zeroValue280
  g0 := by kernel_rfl
  g6 := by kernel_rfl }
open Go.RowKit Go.Lib in
/-- strings.Fields, the table by 'Lib.TabIs' (as strings.TrimSpace's contract). 'hg': the table's number, by its name: at a dump 'by kernel_rfl'. (LAID: no walk: one application.) -/
theorem Tryz.strings_Fields (s : ByteArray) (w : World) (hs : s.size < 4294967281) (hascii : ∀ (j : Nat) b, s.data.toList[j]? = some b → b.toNat < 128) (htab : Lib.TabIs Tryz.prog w "strings.asciiSpace" .u8 Lib.asciiSpaceTab) :
    Calls Tryz.prog 23 #[.string s] w fun e w' =>
      e = .returned (.slice (some ⟨w.heap.size, 0, none⟩) (Lib.fields s.data.toList).length (Lib.fields s.data.toList).length) ∧ w' = w.alloc (.cells ((Lib.fields s.data.toList).map fun l => Value.string ⟨l.toArray⟩).toArray 9) := Any.strings_Fields Tryz.lays157 (by kernel_rfl) (by kernel_rfl) s w hs hascii htab
def Tryz.laysM146_ren : Go.Shelf.Ren := ⟨fun | 146 => 29 | 221 => 44 | 268 => 67 | 138 => 68 | 143 => 69 | 195 => 113 | 197 => 114 | 218 => 115 | 219 => 116 | 260 => 153 | 217 => 43 | 225 => 154 | 224 => 155 | 267 => 156 | 266 => 66 | 314 => 206 | n => n, fun | 9 => 9 | 31 => 70 | 3 => 3 | 4 => 4 | 0 => 0 | 105 => 192 | 21 => 21 | 5 => 5 | 46 => 196 | 119 => 88 | 139 => 348 | 138 => 347 | 146 => 349 | 51 => 142 | n => n, fun | 1 => 2 | 3 => 6 | 4 => 7 | n => n⟩
theorem Tryz.laysM146 : Go.Proofs.LaysM.n146 Tryz.prog Tryz.laysM146_ren := {
  mixed := by kernel_rfl
  f138 := Tryz.func68.trans (congrArg some (by kernel_rfl))
  f143 := Tryz.func69.trans (congrArg some (by kernel_rfl))
  f146 := Tryz.func29.trans (congrArg some (by kernel_rfl))
  f195 := Tryz.func113.trans (congrArg some (by kernel_rfl))
  f197 := Tryz.func114.trans (congrArg some (by kernel_rfl))
  f217 := Tryz.func43.trans (congrArg some (by kernel_rfl))
  f218 := Tryz.func115.trans (congrArg some (by kernel_rfl))
  f219 := Tryz.func116.trans (congrArg some (by kernel_rfl))
  f221 := Tryz.func44.trans (congrArg some (by kernel_rfl))
  f224 := Tryz.func155.trans (congrArg some (by kernel_rfl))
  f225 := Tryz.func154.trans (congrArg some (by kernel_rfl))
  f260 := Tryz.func153.trans (congrArg some (by kernel_rfl))
  f266 := Tryz.func66.trans (congrArg some (by kernel_rfl))
  f267 := Tryz.func156.trans (congrArg some (by kernel_rfl))
  f268 := Tryz.func67.trans (congrArg some (by kernel_rfl))
  f314 := Tryz.func206.trans (congrArg some (by kernel_rfl))
  t0 := Tryz.underlying0
  a0 := Tryz.isAgg0
  z0 := Tryz.sizeOf0
  v0 := Tryz.zeroValue0
  t3 := Tryz.underlying3
  a3 := Tryz.isAgg3
  z3 := Tryz.sizeOf3
  v3 := Tryz.zeroValue3
  t4 := Tryz.underlying4
  a4 := Tryz.isAgg4
  z4 := Tryz.sizeOf4
  v4 := Tryz.zeroValue4
  t5 := Tryz.underlying5
  a5 := Tryz.isAgg5
  z5 := Tryz.sizeOf5
  v5 := Tryz.zeroValue5
  t9 := Tryz.underlying9
  a9 := Tryz.isAgg9
  z9 := Tryz.sizeOf9
  v9 := Tryz.zeroValue9
  t21 := Tryz.underlying21
  a21 := Tryz.isAgg21
  z21 := Tryz.sizeOf21
  v21 := Tryz.zeroValue21
  t31 := Tryz.underlying70
  a31 := Tryz.isAgg70
  z31 := Tryz.sizeOf70
  v31 := Tryz.zeroValue70
  t46 := Tryz.underlying196
  a46 := Tryz.isAgg196
  z46 := Tryz.sizeOf196
  v46 := Tryz.zeroValue196
  t51 := Tryz.underlying142
  a51 := Tryz.isAgg142
  z51 := Tryz.sizeOf142
  v51 := Tryz.zeroValue142
  t105 := Tryz.underlying192
  a105 := Tryz.isAgg192
  z105 := Tryz.sizeOf192
  v105 := Tryz.zeroValue192
  t119 := Tryz.underlying88
  a119 := Tryz.isAgg88
  z119 := Tryz.sizeOf88
  t138 := Tryz.underlying347
  a138 := Tryz.isAgg347
  z138 := Tryz.sizeOf347
  v138 := Tryz.zeroValue347
  t139 := Tryz.underlying348
  a139 := Tryz.isAgg348
  z139 := Tryz.sizeOf348
  v139 := Tryz.zeroValue348
  t146 := Tryz.underlying349
  a146 := Tryz.isAgg349
  z146 := Tryz.sizeOf349
  v146 := Tryz.zeroValue349
  g1 := by kernel_rfl
  g3 := by kernel_rfl
  g4 := by kernel_rfl
  i0 := by kernel_rfl
  i3 := by kernel_rfl
  i4 := by kernel_rfl
  i5 := by kernel_rfl
  i9 := by kernel_rfl
  i21 := by kernel_rfl
  i31 := by kernel_rfl
  i46 := by kernel_rfl
  i51 := by kernel_rfl
  i105 := by kernel_rfl
  i138 := by kernel_rfl
  i139 := by kernel_rfl
  i146 := by kernel_rfl
  m1 := by kernel_rfl
  s1_3 := fun w h => Go.Proofs.cell_of_shapedOpen_int (zero := #[.int .i64 0]) (t := 3) h (of_decide_eq_true (by kernel_rfl)) (by kernel_rfl) rfl (by kernel_rfl) (by kernel_rfl) Tryz.underlying3
  m3 := by kernel_rfl
  m4 := by kernel_rfl }
open Go.RowKit Go.Lib in
/-- strings.Split, sep not empty. (LAID: no walk: one application.) -/
theorem Tryz.strings_Split_shaped (s sep : ByteArray) (w : World) (h : w.ShapedOpen Tryz.prog) (hs : s.size < 4294967281) (h1 : 1 ≤ sep.size) :
    Calls Tryz.prog 29 #[.string s, .string sep] w fun e w' =>
      e = .returned (.slice (some ⟨w.heap.size, 0, none⟩) (Lib.countB s sep + 1) (Lib.countB s sep + 1)) ∧ w' = w.alloc (.cells ((Lib.splitB sep 0 (Lib.countB s sep) s).map Value.string).toArray 9) := Any.strings_Split_shaped Tryz.laysM146 s sep w h hs h1
def Tryz.laysM157_ren : Go.Shelf.Ren := ⟨fun | 157 => 23 | 229 => 39 | 199 => 40 | 261 => 64 | 311 => 107 | 312 => 108 | n => n, fun | 9 => 9 | 31 => 70 | 3 => 3 | 5 => 5 | 4 => 4 | 119 => 88 | 0 => 0 | 40 => 90 | 152 => 139 | 21 => 21 | 154 => 141 | 51 => 142 | 141 => 144 | 196 => 179 | 193 => 176 | 198 => 182 | 49 => 180 | 194 => 177 | 201 => 185 | 226 => 279 | 46 => 196 | 227 => 280 | n => n, fun | 0 => 0 | 6 => 1 | n => n⟩
theorem Tryz.laysM157 : Go.Proofs.LaysM.n157 Tryz.prog Tryz.laysM157_ren := {
  mixed := by kernel_rfl
  f157 := Tryz.func23.trans (congrArg some (by kernel_rfl))
  f199 := Tryz.func40.trans (congrArg some (by kernel_rfl))
  f229 := Tryz.func39.trans (congrArg some (by kernel_rfl))
  f261 := Tryz.func64.trans (congrArg some (by kernel_rfl))
  f311 := Tryz.func107.trans (congrArg some (by kernel_rfl))
  f312 := Tryz.func108.trans (congrArg some (by kernel_rfl))
  t0 := Tryz.underlying0
  a0 := Tryz.isAgg0
  z0 := Tryz.sizeOf0
  v0 := Tryz.zeroValue0
  t3 := Tryz.underlying3
  a3 := Tryz.isAgg3
  z3 := Tryz.sizeOf3
  v3 := Tryz.zeroValue3
  t4 := Tryz.underlying4
  a4 := Tryz.isAgg4
  z4 := Tryz.sizeOf4
  v4 := Tryz.zeroValue4
  t5 := Tryz.underlying5
  a5 := Tryz.isAgg5
  z5 := Tryz.sizeOf5
  v5 := Tryz.zeroValue5
  t9 := Tryz.underlying9
  a9 := Tryz.isAgg9
  z9 := Tryz.sizeOf9
  v9 := Tryz.zeroValue9
  t21 := Tryz.underlying21
  a21 := Tryz.isAgg21
  z21 := Tryz.sizeOf21
  v21 := Tryz.zeroValue21
  t31 := Tryz.underlying70
  a31 := Tryz.isAgg70
  z31 := Tryz.sizeOf70
  v31 := Tryz.zeroValue70
  t40 := Tryz.underlying90
  a40 := Tryz.isAgg90
  z40 := Tryz.sizeOf90
  v40 := Tryz.zeroValue90
  t46 := Tryz.underlying196
  a46 := Tryz.isAgg196
  z46 := Tryz.sizeOf196
  v46 := Tryz.zeroValue196
  t49 := Tryz.underlying180
  a49 := Tryz.isAgg180
  z49 := Tryz.sizeOf180
  v49 := Tryz.zeroValue180
  t51 := Tryz.underlying142
  a51 := Tryz.isAgg142
  z51 := Tryz.sizeOf142
  v51 := Tryz.zeroValue142
  t119 := Tryz.underlying88
  a119 := Tryz.isAgg88
  z119 := Tryz.sizeOf88
  t141 := Tryz.underlying144
  a141 := Tryz.isAgg144
  z141 := Tryz.sizeOf144
  v141 := Tryz.zeroValue144
  t152 := Tryz.underlying139
  a152 := Tryz.isAgg139
  z152 := Tryz.sizeOf139
  v152 := Tryz.zeroValue139
  t154 := Tryz.underlying141
  a154 := Tryz.isAgg141
  z154 := Tryz.sizeOf141
  v154 := Tryz.zeroValue141
  t193 := Tryz.underlying176
  a193 := Tryz.isAgg176
  z193 := Tryz.sizeOf176
  v193 := Tryz.zeroValue176
  t194 := Tryz.underlying177
  a194 := Tryz.isAgg177
  z194 := Tryz.sizeOf177
  v194 := Tryz.zeroValue177
  t196 := Tryz.underlying179
  a196 := Tryz.isAgg179
  z196 := Tryz.sizeOf179
  v196 := Tryz.zeroValue179
  t198 := Tryz.underlying182
  a198 := Tryz.isAgg182
  z198 := Tryz.sizeOf182
  v198 := Tryz.zeroValue182
  t201 := Tryz.underlying185
  a201 := Tryz.isAgg185
  z201 := Tryz.sizeOf185
  v201 := Tryz.zeroValue185
  t226 := Tryz.underlying279
  a226 := Tryz.isAgg279
  z226 := Tryz.sizeOf279
  v226 := Tryz.zeroValue279
  t227 := Tryz.underlying280
  a227 := Tryz.isAgg280
  z227 := Tryz.sizeOf280
  v227 := Tryz.zeroValue280
  g0 := by kernel_rfl
  g6 := by kernel_rfl
  i0 := by kernel_rfl
  i3 := by kernel_rfl
  i4 := by kernel_rfl
  i5 := by kernel_rfl
  i9 := by kernel_rfl
  i21 := by kernel_rfl
  i31 := by kernel_rfl
  i40 := by kernel_rfl
  i46 := by kernel_rfl
  i49 := by kernel_rfl
  i51 := by kernel_rfl
  i141 := by kernel_rfl
  i152 := by kernel_rfl
  i154 := by kernel_rfl
  i193 := by kernel_rfl
  i194 := by kernel_rfl
  i196 := by kernel_rfl
  i198 := by kernel_rfl
  i201 := by kernel_rfl
  i226 := by kernel_rfl
  i227 := by kernel_rfl
  m0 := by kernel_rfl
  m6 := by kernel_rfl }
open Go.RowKit Go.Lib in
/-- strings.Fields on ASCII bytes. (The table: 'Lib.TabIs', as strings.TrimSpace's contract asks it.) (LAID: no walk: one application.) -/
theorem Tryz.strings_Fields_laid (s : ByteArray) (w : World) (hs : s.size < 4294967281) (hascii : ∀ (j : Nat) b, s.data.toList[j]? = some b → b.toNat < 128) (htab : Lib.TabIs Tryz.prog w "strings.asciiSpace" .u8 Lib.asciiSpaceTab) :
    Calls Tryz.prog 23 #[.string s] w fun e w' =>
      e = .returned (.slice (some ⟨w.heap.size, 0, none⟩) (Lib.fields s.data.toList).length (Lib.fields s.data.toList).length) ∧ w' = w.alloc (.cells ((Lib.fields s.data.toList).map fun l => Value.string ⟨l.toArray⟩).toArray 9) := Any.strings_Fields_laid Tryz.laysM157 s w hs hascii htab
def Tryz.lays199_ren : Go.Shelf.Ren := ⟨fun | 199 => 40 | 261 => 64 | 311 => 107 | 312 => 108 | n => n, fun | 21 => 21 | 4 => 4 | 51 => 142 | 141 => 144 | 0 => 0 | 196 => 179 | 193 => 176 | 3 => 3 | 198 => 182 | 49 => 180 | 194 => 177 | 201 => 185 | 226 => 279 | 46 => 196 | 227 => 280 | n => n, fun | 6 => 1 | n => n⟩
theorem Tryz.lays199 : Go.Proofs.Lays.n199 Tryz.prog Tryz.lays199_ren := {
  mixed := by kernel_rfl
  f199 := Tryz.func40.trans (congrArg some (by kernel_rfl))
  f261 := Tryz.func64.trans (congrArg some (by kernel_rfl))
  f311 := Tryz.func107.trans (congrArg some (by kernel_rfl))
  f312 := Tryz.func108.trans (congrArg some (by kernel_rfl))
  t0 := Tryz.underlying0
  a0 := Tryz.isAgg0
  z0 := Tryz.sizeOf0
  v0 := Tryz.zeroValue0
  t3 := Tryz.underlying3
  a3 := Tryz.isAgg3
  z3 := Tryz.sizeOf3
  v3 := Tryz.zeroValue3
  t4 := Tryz.underlying4
  a4 := Tryz.isAgg4
  z4 := Tryz.sizeOf4
  v4 := Tryz.zeroValue4
  t21 := Tryz.underlying21
  a21 := Tryz.isAgg21
  z21 := Tryz.sizeOf21
  v21 := Tryz.zeroValue21
  t46 := Tryz.underlying196
  a46 := Tryz.isAgg196
  z46 := Tryz.sizeOf196
  v46 := Tryz.zeroValue196
  t49 := Tryz.underlying180
  a49 := Tryz.isAgg180
  z49 := Tryz.sizeOf180
  v49 := Tryz.zeroValue180
  t51 := Tryz.underlying142
  a51 := Tryz.isAgg142
  z51 := Tryz.sizeOf142
  v51 := Tryz.zeroValue142
  t141 := Tryz.underlying144
  a141 := Tryz.isAgg144
  z141 := Tryz.sizeOf144
  v141 := Tryz.zeroValue144
  t193 := Tryz.underlying176
  a193 := Tryz.isAgg176
  z193 := Tryz.sizeOf176
  v193 := Tryz.zeroValue176
  t194 := Tryz.underlying177
  a194 := Tryz.isAgg177
  z194 := Tryz.sizeOf177
  v194 := Tryz.zeroValue177
  t196 := Tryz.underlying179
  a196 := Tryz.isAgg179
  z196 := Tryz.sizeOf179
  v196 := Tryz.zeroValue179
  t198 := Tryz.underlying182
  a198 := Tryz.isAgg182
  z198 := Tryz.sizeOf182
  v198 := Tryz.zeroValue182
  t201 := Tryz.underlying185
  a201 := Tryz.isAgg185
  z201 := Tryz.sizeOf185
  v201 := Tryz.zeroValue185
  t226 := Tryz.underlying279
  a226 := Tryz.isAgg279
  z226 := Tryz.sizeOf279
  v226 := Tryz.zeroValue279
  t227 := Tryz.underlying280
  a227 := Tryz.isAgg280
  z227 := Tryz.sizeOf280
  v227 := Tryz.zeroValue280
  g6 := by kernel_rfl }
open Go.RowKit Go.Lib in
theorem Tryz.unicode_IsSpace (r : Int) (w : World) (h0 : 0 ≤ r) (h : r ≤ 255) :
    Calls Tryz.prog 40 #[.int .i32 r] w fun e w' => e = .returned (.bool (Lib.isSpaceL r)) ∧ w' = w := Any.unicode_IsSpace Tryz.lays199 r w h0 h
def Tryz.lays197_ren : Go.Shelf.Ren := ⟨fun | 197 => 114 | 260 => 153 | n => n, fun | 9 => 9 | 21 => 21 | 3 => 3 | 4 => 4 | 5 => 5 | 105 => 192 | 119 => 88 | 0 => 0 | 46 => 196 | 139 => 348 | 138 => 347 | n => n, fun | 3 => 6 | 4 => 7 | n => n⟩
theorem Tryz.lays197 : Go.Proofs.Lays.n197 Tryz.prog Tryz.lays197_ren := {
  mixed := by kernel_rfl
  f197 := Tryz.func114.trans (congrArg some (by kernel_rfl))
  f260 := Tryz.func153.trans (congrArg some (by kernel_rfl))
  t0 := Tryz.underlying0
  a0 := Tryz.isAgg0
  z0 := Tryz.sizeOf0
  v0 := Tryz.zeroValue0
  t3 := Tryz.underlying3
  a3 := Tryz.isAgg3
  z3 := Tryz.sizeOf3
  v3 := Tryz.zeroValue3
  t4 := Tryz.underlying4
  a4 := Tryz.isAgg4
  z4 := Tryz.sizeOf4
  v4 := Tryz.zeroValue4
  t5 := Tryz.underlying5
  a5 := Tryz.isAgg5
  z5 := Tryz.sizeOf5
  v5 := Tryz.zeroValue5
  t9 := Tryz.underlying9
  a9 := Tryz.isAgg9
  z9 := Tryz.sizeOf9
  v9 := Tryz.zeroValue9
  t21 := Tryz.underlying21
  a21 := Tryz.isAgg21
  z21 := Tryz.sizeOf21
  v21 := Tryz.zeroValue21
  t46 := Tryz.underlying196
  a46 := Tryz.isAgg196
  z46 := Tryz.sizeOf196
  v46 := Tryz.zeroValue196
  t105 := Tryz.underlying192
  a105 := Tryz.isAgg192
  z105 := Tryz.sizeOf192
  v105 := Tryz.zeroValue192
  t119 := Tryz.underlying88
  a119 := Tryz.isAgg88
  z119 := Tryz.sizeOf88
  t138 := Tryz.underlying347
  a138 := Tryz.isAgg347
  z138 := Tryz.sizeOf347
  v138 := Tryz.zeroValue347
  t139 := Tryz.underlying348
  a139 := Tryz.isAgg348
  z139 := Tryz.sizeOf348
  v139 := Tryz.zeroValue348
  g3 := by kernel_rfl
  g4 := by kernel_rfl }
open Go.RowKit Go.Lib in
/-- unicode/utf8.DecodeRuneInString: "DecodeRuneInString is like DecodeRune but its input is a string.": ("DecodeRune unpacks the first UTF-8 encoding in p and returns the rune and its width in bytes."): WHERE s BEGINS WITH AN ASCII BYTE x: (x, 1). (LAID: no walk: one application.) -/
theorem Tryz.utf8_DecodeRuneInString_ascii (s : ByteArray) (x : UInt8) (w : World) (h0 : s.data.toList[0]? = some x) (hx : x.toNat < 128) :
    Calls Tryz.prog 114 #[.string s] w fun e w' => e = .returned (.tuple #[.int .i32 x.toNat, .int .i64 1]) ∧ w' = w := Any.utf8_DecodeRuneInString_ascii Tryz.lays197 s x w h0 hx
open Go.RowKit Go.Lib in
theorem Tryz.utf8_RuneCountInString_ascii (s : ByteArray) (w : World) (hs : s.size < 4294967281) (hascii : ∀ (j : Nat) b, s.data.toList[j]? = some b → b.toNat < 128) :
    Calls Tryz.prog 113 #[.string s] w fun e w' => e = .returned (.int .i64 s.size) ∧ w' = w.iter s s.size := Any.utf8_RuneCountInString_ascii Tryz.lays195 s w hs hascii
def Tryz.lays268_ren : Go.Shelf.Ren := ⟨fun | 268 => 67 | 195 => 113 | 197 => 114 | 260 => 153 | n => n, fun | 9 => 9 | 3 => 3 | 31 => 70 | 4 => 4 | 105 => 192 | 21 => 21 | 0 => 0 | 5 => 5 | 119 => 88 | 46 => 196 | 139 => 348 | 138 => 347 | n => n, fun | 3 => 6 | 4 => 7 | n => n⟩
theorem Tryz.lays268 : Go.Proofs.Lays.n268 Tryz.prog Tryz.lays268_ren := {
  mixed := by kernel_rfl
  f195 := Tryz.func113.trans (congrArg some (by kernel_rfl))
  f197 := Tryz.func114.trans (congrArg some (by kernel_rfl))
  f260 := Tryz.func153.trans (congrArg some (by kernel_rfl))
  f268 := Tryz.func67.trans (congrArg some (by kernel_rfl))
  t0 := Tryz.underlying0
  a0 := Tryz.isAgg0
  z0 := Tryz.sizeOf0
  v0 := Tryz.zeroValue0
  t3 := Tryz.underlying3
  a3 := Tryz.isAgg3
  z3 := Tryz.sizeOf3
  v3 := Tryz.zeroValue3
  t4 := Tryz.underlying4
  a4 := Tryz.isAgg4
  z4 := Tryz.sizeOf4
  v4 := Tryz.zeroValue4
  t5 := Tryz.underlying5
  a5 := Tryz.isAgg5
  z5 := Tryz.sizeOf5
  v5 := Tryz.zeroValue5
  t9 := Tryz.underlying9
  a9 := Tryz.isAgg9
  z9 := Tryz.sizeOf9
  v9 := Tryz.zeroValue9
  t21 := Tryz.underlying21
  a21 := Tryz.isAgg21
  z21 := Tryz.sizeOf21
  v21 := Tryz.zeroValue21
  t31 := Tryz.underlying70
  a31 := Tryz.isAgg70
  z31 := Tryz.sizeOf70
  v31 := Tryz.zeroValue70
  t46 := Tryz.underlying196
  a46 := Tryz.isAgg196
  z46 := Tryz.sizeOf196
  v46 := Tryz.zeroValue196
  t105 := Tryz.underlying192
  a105 := Tryz.isAgg192
  z105 := Tryz.sizeOf192
  v105 := Tryz.zeroValue192
  t119 := Tryz.underlying88
  a119 := Tryz.isAgg88
  z119 := Tryz.sizeOf88
  t138 := Tryz.underlying347
  a138 := Tryz.isAgg347
  z138 := Tryz.sizeOf347
  v138 := Tryz.zeroValue347
  t139 := Tryz.underlying348
  a139 := Tryz.isAgg348
  z139 := Tryz.sizeOf348
  v139 := Tryz.zeroValue348
  g3 := by kernel_rfl
  g4 := by kernel_rfl }
open Go.RowKit Go.Lib in
theorem Tryz.strings_explode_all (s : ByteArray) (n : Int) (w : World) (hn : n < 0) (hs : s.size < 4294967281) (hascii : ∀ (j : Nat) b, s.data.toList[j]? = some b → b.toNat < 128) :
    Calls Tryz.prog 67 #[.string s, .int .i64 n] w fun e w' =>
      e = .returned (.slice (some ⟨(w.iter s s.size).heap.size, 0, none⟩) s.size s.size) ∧ w' = (w.iter s s.size).alloc (.cells ((Lib.charsB s).map Value.string).toArray 9) := Any.strings_explode_all Tryz.lays268 (by kernel_rfl) s n w hn hs hascii
open Go.RowKit Go.Lib in
/-- strings.genSplit at sep == "", n < 0: 'return explode(s, n)'. (LAID: no walk: one application.) -/
theorem Tryz.strings_genSplit_chars (s sep : ByteArray) (sv n : Int) (w : World) (h0 : sep.size = 0) (hn : n < 0) (hs : s.size < 4294967281) (hascii : ∀ (j : Nat) b, s.data.toList[j]? = some b → b.toNat < 128) :
    Calls Tryz.prog 44 #[.string s, .string sep, .int .i64 sv, .int .i64 n] w fun e w' =>
      e = .returned (.slice (some ⟨(w.iter s s.size).heap.size, 0, none⟩) s.size s.size) ∧ w' = (w.iter s s.size).alloc (.cells ((Lib.charsB s).map Value.string).toArray 9) := Any.strings_genSplit_chars Tryz.lays221 (by kernel_rfl) s sep sv n w h0 hn hs hascii
open Go.RowKit Go.Lib in
/-- strings.Split(s, ""), s ASCII: a piece a byte. (LAID: no walk: one application.) -/
theorem Tryz.strings_Split_chars (s sep : ByteArray) (w : World) (h0 : sep.size = 0) (hs : s.size < 4294967281) (hascii : ∀ (j : Nat) b, s.data.toList[j]? = some b → b.toNat < 128) :
    Calls Tryz.prog 29 #[.string s, .string sep] w fun e w' =>
      e = .returned (.slice (some ⟨(w.iter s s.size).heap.size, 0, none⟩) s.size s.size) ∧ w' = (w.iter s s.size).alloc (.cells ((Lib.charsB s).map Value.string).toArray 9) := Any.strings_Split_chars Tryz.lays146 (by kernel_rfl) s sep w h0 hs hascii
def Tryz.lays260_ren : Go.Shelf.Ren := ⟨fun | 260 => 153 | n => n, fun | 9 => 9 | 21 => 21 | 3 => 3 | 4 => 4 | 5 => 5 | 119 => 88 | 0 => 0 | 46 => 196 | 139 => 348 | 138 => 347 | n => n, fun | 3 => 6 | 4 => 7 | n => n⟩
theorem Tryz.lays260 : Go.Proofs.Lays.n260 Tryz.prog Tryz.lays260_ren := {
  mixed := by kernel_rfl
  f260 := Tryz.func153.trans (congrArg some (by kernel_rfl))
  t0 := Tryz.underlying0
  a0 := Tryz.isAgg0
  z0 := Tryz.sizeOf0
  v0 := Tryz.zeroValue0
  t3 := Tryz.underlying3
  a3 := Tryz.isAgg3
  z3 := Tryz.sizeOf3
  v3 := Tryz.zeroValue3
  t4 := Tryz.underlying4
  a4 := Tryz.isAgg4
  z4 := Tryz.sizeOf4
  v4 := Tryz.zeroValue4
  t5 := Tryz.underlying5
  a5 := Tryz.isAgg5
  z5 := Tryz.sizeOf5
  v5 := Tryz.zeroValue5
  t9 := Tryz.underlying9
  a9 := Tryz.isAgg9
  z9 := Tryz.sizeOf9
  v9 := Tryz.zeroValue9
  t21 := Tryz.underlying21
  a21 := Tryz.isAgg21
  z21 := Tryz.sizeOf21
  v21 := Tryz.zeroValue21
  t46 := Tryz.underlying196
  a46 := Tryz.isAgg196
  z46 := Tryz.sizeOf196
  v46 := Tryz.zeroValue196
  t119 := Tryz.underlying88
  a119 := Tryz.isAgg88
  z119 := Tryz.sizeOf88
  t138 := Tryz.underlying347
  a138 := Tryz.isAgg347
  z138 := Tryz.sizeOf347
  v138 := Tryz.zeroValue347
  t139 := Tryz.underlying348
  a139 := Tryz.isAgg348
  z139 := Tryz.sizeOf348
  v139 := Tryz.zeroValue348
  g3 := by kernel_rfl
  g4 := by kernel_rfl }
open Go.RowKit Go.Lib in
theorem Tryz.utf8_decodeRuneInStringSlow (s : ByteArray) (w : World) (hT : Lib.Utf8Tabs 6 7 w) :
    Calls Tryz.prog 153 #[.string s] w fun e w' => e = .returned (.tuple #[.int .i32 (Lib.decodeGo s).1, .int .i64 (Lib.decodeGo s).2]) ∧ Below w.heap.size w w' := Any.utf8_decodeRuneInStringSlow Tryz.lays260 s w hT
open Go.RowKit Go.Lib in
/-- **unicode/utf8.DecodeRuneInString AT EVERY STRING.** (LAID: no walk: one application.) -/
theorem Tryz.utf8_DecodeRuneInString (s : ByteArray) (w : World) (hT : Lib.Utf8Tabs 6 7 w) :
    Calls Tryz.prog 114 #[.string s] w fun e w' => e = .returned (.tuple #[.int .i32 (Lib.decodeGo s).1, .int .i64 (Lib.decodeGo s).2]) ∧ Below w.heap.size w w' := Any.utf8_DecodeRuneInString Tryz.lays197 s w hT
def Tryz.lays311_ren : Go.Shelf.Ren := ⟨fun | 311 => 107 | n => n, fun | 193 => 176 | 49 => 180 | 4 => 4 | 3 => 3 | 0 => 0 | 226 => 279 | 198 => 182 | 46 => 196 | n => n, fun | n => n⟩
theorem Tryz.lays311 : Go.Proofs.Lays.n311 Tryz.prog Tryz.lays311_ren := {
  mixed := by kernel_rfl
  f311 := Tryz.func107.trans (congrArg some (by kernel_rfl))
  t0 := Tryz.underlying0
  a0 := Tryz.isAgg0
  z0 := Tryz.sizeOf0
  v0 := Tryz.zeroValue0
  t3 := Tryz.underlying3
  a3 := Tryz.isAgg3
  z3 := Tryz.sizeOf3
  v3 := Tryz.zeroValue3
  t4 := Tryz.underlying4
  a4 := Tryz.isAgg4
  z4 := Tryz.sizeOf4
  v4 := Tryz.zeroValue4
  t46 := Tryz.underlying196
  a46 := Tryz.isAgg196
  z46 := Tryz.sizeOf196
  v46 := Tryz.zeroValue196
  t49 := Tryz.underlying180
  a49 := Tryz.isAgg180
  z49 := Tryz.sizeOf180
  v49 := Tryz.zeroValue180
  t193 := Tryz.underlying176
  a193 := Tryz.isAgg176
  z193 := Tryz.sizeOf176
  v193 := Tryz.zeroValue176
  t198 := Tryz.underlying182
  a198 := Tryz.isAgg182
  z198 := Tryz.sizeOf182
  v198 := Tryz.zeroValue182
  t226 := Tryz.underlying279
  a226 := Tryz.isAgg279
  z226 := Tryz.sizeOf279
  v226 := Tryz.zeroValue279 }
open Go.RowKit Go.Lib in
theorem Tryz.unicode_is16_white (R oR : Nat) (z : Nat) (w : World) (hz : z < 65536) (hz0 : 255 < z) (c6 : w.cell? ⟨R, oR + 6, none⟩ = some (.int .u16 160)) (c7 : w.cell? ⟨R, oR + 7, none⟩ = some (.int .u16 5760)) (c8 : w.cell? ⟨R, oR + 8, none⟩ = some (.int .u16 5600)) (c9 : w.cell? ⟨R, oR + 9, none⟩ = some (.int .u16 8192)) (c10 : w.cell? ⟨R, oR + 10, none⟩ = some (.int .u16 8202)) (c11 : w.cell? ⟨R, oR + 11, none⟩ = some (.int .u16 1)) (c12 : w.cell? ⟨R, oR + 12, none⟩ = some (.int .u16 8232)) (c13 : w.cell? ⟨R, oR + 13, none⟩ = some (.int .u16 8233)) (c14 : w.cell? ⟨R, oR + 14, none⟩ = some (.int .u16 1)) (c15 : w.cell? ⟨R, oR + 15, none⟩ = some (.int .u16 8239)) (c16 : w.cell? ⟨R, oR + 16, none⟩ = some (.int .u16 8287)) (c17 : w.cell? ⟨R, oR + 17, none⟩ = some (.int .u16 48)) (c18 : w.cell? ⟨R, oR + 18, none⟩ = some (.int .u16 12288)) (c19 : w.cell? ⟨R, oR + 19, none⟩ = some (.int .u16 12288)) (c20 : w.cell? ⟨R, oR + 20, none⟩ = some (.int .u16 1)) :
    Calls Tryz.prog 107 #[.slice (some ⟨R, oR + 6, none⟩) 5 5, .int .u16 z] w fun e w' => e = .returned (.bool (Lib.isSpaceR z)) ∧ Below w.heap.size w w' := Any.unicode_is16_white Tryz.lays311 R oR z w hz hz0 c6 c7 c8 c9 c10 c11 c12 c13 c14 c15 c16 c17 c18 c19 c20
def Tryz.lays261_ren : Go.Shelf.Ren := ⟨fun | 261 => 64 | 311 => 107 | 312 => 108 | n => n, fun | 141 => 144 | 21 => 21 | 4 => 4 | 0 => 0 | 196 => 179 | 193 => 176 | 3 => 3 | 51 => 142 | 198 => 182 | 49 => 180 | 194 => 177 | 201 => 185 | 226 => 279 | 46 => 196 | 227 => 280 | n => n, fun | n => n⟩
theorem Tryz.lays261 : Go.Proofs.Lays.n261 Tryz.prog Tryz.lays261_ren := {
  mixed := by kernel_rfl
  f261 := Tryz.func64.trans (congrArg some (by kernel_rfl))
  f311 := Tryz.func107.trans (congrArg some (by kernel_rfl))
  f312 := Tryz.func108.trans (congrArg some (by kernel_rfl))
  t0 := Tryz.underlying0
  a0 := Tryz.isAgg0
  z0 := Tryz.sizeOf0
  v0 := Tryz.zeroValue0
  t3 := Tryz.underlying3
  a3 := Tryz.isAgg3
  z3 := Tryz.sizeOf3
  v3 := Tryz.zeroValue3
  t4 := Tryz.underlying4
  a4 := Tryz.isAgg4
  z4 := Tryz.sizeOf4
  v4 := Tryz.zeroValue4
  t21 := Tryz.underlying21
  a21 := Tryz.isAgg21
  z21 := Tryz.sizeOf21
  v21 := Tryz.zeroValue21
  t46 := Tryz.underlying196
  a46 := Tryz.isAgg196
  z46 := Tryz.sizeOf196
  v46 := Tryz.zeroValue196
  t49 := Tryz.underlying180
  a49 := Tryz.isAgg180
  z49 := Tryz.sizeOf180
  v49 := Tryz.zeroValue180
  t51 := Tryz.underlying142
  a51 := Tryz.isAgg142
  z51 := Tryz.sizeOf142
  v51 := Tryz.zeroValue142
  t141 := Tryz.underlying144
  a141 := Tryz.isAgg144
  z141 := Tryz.sizeOf144
  v141 := Tryz.zeroValue144
  t193 := Tryz.underlying176
  a193 := Tryz.isAgg176
  z193 := Tryz.sizeOf176
  v193 := Tryz.zeroValue176
  t194 := Tryz.underlying177
  a194 := Tryz.isAgg177
  z194 := Tryz.sizeOf177
  v194 := Tryz.zeroValue177
  t196 := Tryz.underlying179
  a196 := Tryz.isAgg179
  z196 := Tryz.sizeOf179
  v196 := Tryz.zeroValue179
  t198 := Tryz.underlying182
  a198 := Tryz.isAgg182
  z198 := Tryz.sizeOf182
  v198 := Tryz.zeroValue182
  t201 := Tryz.underlying185
  a201 := Tryz.isAgg185
  z201 := Tryz.sizeOf185
  v201 := Tryz.zeroValue185
  t226 := Tryz.underlying279
  a226 := Tryz.isAgg279
  z226 := Tryz.sizeOf279
  v226 := Tryz.zeroValue279
  t227 := Tryz.underlying280
  a227 := Tryz.isAgg280
  z227 := Tryz.sizeOf280
  v227 := Tryz.zeroValue280 }
open Go.RowKit Go.Lib in
/-- unicode.isExcludingLatin(White_Space, r), r beyond U+00FF or negative. (LAID: no walk: one application.) -/
theorem Tryz.unicode_isExcludingLatin_white (T oT R oR : Nat) (r : Int) (w : World) (hlo : -2147483648 ≤ r) (hhi : r ≤ 2147483647) (hr : r < 0 ∨ 255 < r) (h2 : w.cell? ⟨T, oT, none⟩ = some (.slice (some ⟨R, oR, none⟩) 7 7)) (h3 : w.cell? ⟨T, oT + 1, none⟩ = some (.slice none 0 0)) (h4 : w.cell? ⟨T, oT + 2, none⟩ = some (.int .i64 2)) (h5 : ∀ i, i < 21 → w.cell? ⟨R, oR + i, none⟩ = some (.int .u16 (whiteT.getD i 0))) :
    Calls Tryz.prog 64 #[.pointer (some ⟨T, oT, none⟩), .int .i32 r] w fun e w' => e = .returned (.bool (Lib.isSpaceZ r)) ∧ Below w.heap.size w w' := Any.unicode_isExcludingLatin_white Tryz.lays261 T oT R oR r w hlo hhi hr h2 h3 h4 h5
open Go.RowKit Go.Lib in
/-- **unicode.IsSpace AT EVERY int32.** (LAID: no walk: one application.) -/
theorem Tryz.unicode_IsSpace_any (r : Int) (w : World) (hlo : -2147483648 ≤ r) (hhi : r ≤ 2147483647) (hW : Lib.WhiteTab 1 w) :
    Calls Tryz.prog 40 #[.int .i32 r] w fun e w' => e = .returned (.bool (Lib.isSpaceZ r)) ∧ Below w.heap.size w w' := Any.unicode_IsSpace_any Tryz.lays199 r w hlo hhi hW
open Go.RowKit Go.Lib in
theorem Tryz.unicode_is16_any (T : Array Rg) (R oR cap : Nat) (z : Nat) (w : World) (hz : z < 65536) (hT : RgTab .u16 R oR T w) (hok : RgOk 65536 T) (hn : T.size ≤ 1000000000) :
    Calls Tryz.prog 107 #[.slice (some ⟨R, oR, none⟩) T.size cap, .int .u16 z] w fun e w' => e = .returned (.bool (is16Go T z)) ∧ ∃ q, w' = w.drewN q := Any.unicode_is16_any Tryz.lays311 T R oR cap z w hz hT hok hn
def Tryz.lays312_ren : Go.Shelf.Ren := ⟨fun | 312 => 108 | n => n, fun | 194 => 177 | 51 => 142 | 4 => 4 | 3 => 3 | 0 => 0 | 227 => 280 | 201 => 185 | 46 => 196 | n => n, fun | n => n⟩
theorem Tryz.lays312 : Go.Proofs.Lays.n312 Tryz.prog Tryz.lays312_ren := {
  mixed := by kernel_rfl
  f312 := Tryz.func108.trans (congrArg some (by kernel_rfl))
  t0 := Tryz.underlying0
  a0 := Tryz.isAgg0
  z0 := Tryz.sizeOf0
  v0 := Tryz.zeroValue0
  t3 := Tryz.underlying3
  a3 := Tryz.isAgg3
  z3 := Tryz.sizeOf3
  v3 := Tryz.zeroValue3
  t4 := Tryz.underlying4
  a4 := Tryz.isAgg4
  z4 := Tryz.sizeOf4
  v4 := Tryz.zeroValue4
  t46 := Tryz.underlying196
  a46 := Tryz.isAgg196
  z46 := Tryz.sizeOf196
  v46 := Tryz.zeroValue196
  t51 := Tryz.underlying142
  a51 := Tryz.isAgg142
  z51 := Tryz.sizeOf142
  v51 := Tryz.zeroValue142
  t194 := Tryz.underlying177
  a194 := Tryz.isAgg177
  z194 := Tryz.sizeOf177
  v194 := Tryz.zeroValue177
  t201 := Tryz.underlying185
  a201 := Tryz.isAgg185
  z201 := Tryz.sizeOf185
  v201 := Tryz.zeroValue185
  t227 := Tryz.underlying280
  a227 := Tryz.isAgg280
  z227 := Tryz.sizeOf280
  v227 := Tryz.zeroValue280 }
open Go.RowKit Go.Lib in
theorem Tryz.unicode_is32_any (T : Array Rg) (R oR cap : Nat) (z : Nat) (w : World) (hz : z < 4294967296) (hT : RgTab .u32 R oR T w) (hok : RgOk 4294967296 T) (hn : T.size ≤ 1000000000) :
    Calls Tryz.prog 108 #[.slice (some ⟨R, oR, none⟩) T.size cap, .int .u32 z] w fun e w' => e = .returned (.bool (is32Go T z)) ∧ Below w.heap.size w w' := Any.unicode_is32_any Tryz.lays312 T R oR cap z w hz hT hok hn
open Go.RowKit Go.Lib in
theorem Tryz.unicode_isExcludingLatin_any (Tb oT : Nat) (T : RTab) (r : Int) (w : World) (hlo : -2147483648 ≤ r) (hhi : r ≤ 2147483647) (hA : RTabAt Tb oT T w) (hok : RTabOk T) :
    Calls Tryz.prog 64 #[.pointer (some ⟨Tb, oT, none⟩), .int .i32 r] w fun e w' => e = .returned (.bool (exclGo T r)) ∧ Below w.heap.size w w' := Any.unicode_isExcludingLatin_any Tryz.lays261 Tb oT T r w hlo hhi hA hok
def Tryz.laysSlE041_f52_ren : Go.Shelf.Ren := ⟨fun | 41 => 52 | n => n, fun | 22 => 57 | 23 => 4 | 4 => 4 | n => n, fun | n => n⟩
theorem Tryz.laysSlE041_f52 : Go.Proofs.SlLaysE0.n41 Tryz.prog Tryz.laysSlE041_f52_ren := {
  mixed := by kernel_rfl
  f41 := ⟨Tryz.f52.name, by decide, Tryz.func52.trans (congrArg some (by kernel_rfl))⟩
  t4 := Tryz.underlying4
  a4 := Tryz.isAgg4
  z4 := Tryz.sizeOf4
  v4 := Tryz.zeroValue4
  t22 := Tryz.underlying57
  a22 := Tryz.isAgg57
  z22 := Tryz.sizeOf57
  v22 := Tryz.zeroValue57 }
open Go.RowKit Go.Lib in
/-- slices.Clone: "Clone returns a copy of the slice. The elements are copied using assignment, so this is a shallow clone. The result may have additional unused capacity. The result preserves the nilness of s.": OF A SLICE THAT IS NOT nil IT RETURNS A SLICE THAT IS NOT nil, OF THE SAME CELLS, IN MEMORY OF THE CALL's OWN ('ownsRow': the how-to's 6f); below the heap's size at the call all is as it was. (LAID AT THE INSTANCE 'slices.Clone[[]bool,bool]': no walk: one application.) -/
theorem Tryz.slices_Clone_f52 (i0 : TypeInfo) (z : Value) (size bytes : Nat) (hi : Tryz.prog.info? 4 = some i0) (hz0 : i0.zero = some z) (hz1 : i0.size = size) (hz2 : i0.bytes = bytes) (hzs : z.cells.size = size) (hsz : 0 < size) (z23 : ∀ w, (Go.sizeOf 4).run Tryz.prog w = .ok size w) (b off n c : Nat) (news : List Value) (w : World) (hl : news.length = n * size) (hn : n ≤ maxLen) (hbig : n * bytes ≤ 140737488355328) (hc : ∀ j u, news[j]? = some u → w.cell? ⟨b, off + j, none⟩ = some u) (h1 : ∀ u ∈ news, u.oneCell' = true) :
    Calls Tryz.prog 52 #[.slice (some ⟨b, off, none⟩) n c] w fun e w' => ∃ v', e = .returned v' ∧ w'.ownsRow w.heap.size 4 size v' n news ∧ v' ≠ .slice none 0 0 ∧ Below w.heap.size w w' := AnyE.slices_Clone Tryz.laysSlE041_f52 i0 z size bytes hi hz0 hz1 hz2 hzs hsz z23 b off n c news w hl hn hbig hc h1
def Tryz.laysSlE041_f53_ren : Go.Shelf.Ren := ⟨fun | 41 => 53 | n => n, fun | 22 => 60 | 23 => 56 | 4 => 4 | n => n, fun | n => n⟩
theorem Tryz.laysSlE041_f53 : Go.Proofs.SlLaysE0.n41 Tryz.prog Tryz.laysSlE041_f53_ren := {
  mixed := by kernel_rfl
  f41 := ⟨Tryz.f53.name, by decide, Tryz.func53.trans (congrArg some (by kernel_rfl))⟩
  t4 := Tryz.underlying4
  a4 := Tryz.isAgg4
  z4 := Tryz.sizeOf4
  v4 := Tryz.zeroValue4
  t22 := Tryz.underlying60
  a22 := Tryz.isAgg60
  z22 := Tryz.sizeOf60
  v22 := Tryz.zeroValue60 }
open Go.RowKit Go.Lib in
/-- slices.Clone: "Clone returns a copy of the slice. The elements are copied using assignment, so this is a shallow clone. The result may have additional unused capacity. The result preserves the nilness of s.": OF A SLICE THAT IS NOT nil IT RETURNS A SLICE THAT IS NOT nil, OF THE SAME CELLS, IN MEMORY OF THE CALL's OWN ('ownsRow': the how-to's 6f); below the heap's size at the call all is as it was. (LAID AT THE INSTANCE 'slices.Clone[[]uint64,uint64]': no walk: one application.) -/
theorem Tryz.slices_Clone_f53 (i0 : TypeInfo) (z : Value) (size bytes : Nat) (hi : Tryz.prog.info? 56 = some i0) (hz0 : i0.zero = some z) (hz1 : i0.size = size) (hz2 : i0.bytes = bytes) (hzs : z.cells.size = size) (hsz : 0 < size) (z23 : ∀ w, (Go.sizeOf 56).run Tryz.prog w = .ok size w) (b off n c : Nat) (news : List Value) (w : World) (hl : news.length = n * size) (hn : n ≤ maxLen) (hbig : n * bytes ≤ 140737488355328) (hc : ∀ j u, news[j]? = some u → w.cell? ⟨b, off + j, none⟩ = some u) (h1 : ∀ u ∈ news, u.oneCell' = true) :
    Calls Tryz.prog 53 #[.slice (some ⟨b, off, none⟩) n c] w fun e w' => ∃ v', e = .returned v' ∧ w'.ownsRow w.heap.size 56 size v' n news ∧ v' ≠ .slice none 0 0 ∧ Below w.heap.size w w' := AnyE.slices_Clone Tryz.laysSlE041_f53 i0 z size bytes hi hz0 hz1 hz2 hzs hsz z23 b off n c news w hl hn hbig hc h1
open Go.RowKit Go.Lib in
/-- The same at nil: nil comes back; the world is as it was; nothing is asked of the element's type. (LAID AT THE INSTANCE 'slices.Clone[[]bool,bool]': no walk: one application.) -/
theorem Tryz.slices_Clone_nil_f52 (n c : Nat) (w : World) :
    Calls Tryz.prog 52 #[.slice none n c] w fun e w' => e = .returned (.slice none 0 0) ∧ w' = w := AnyE.slices_Clone_nil Tryz.laysSlE041_f52 n c w
open Go.RowKit Go.Lib in
/-- The same at nil: nil comes back; the world is as it was; nothing is asked of the element's type. (LAID AT THE INSTANCE 'slices.Clone[[]uint64,uint64]': no walk: one application.) -/
theorem Tryz.slices_Clone_nil_f53 (n c : Nat) (w : World) :
    Calls Tryz.prog 53 #[.slice none n c] w fun e w' => e = .returned (.slice none 0 0) ∧ w' = w := AnyE.slices_Clone_nil Tryz.laysSlE041_f53 n c w
end Go.Proofs

/-
  trace: an event's line, and whether an event is right. No condition.
-/
namespace Go.Proofs.YtcemhpdhcmlhlaaGreatDoor
open Go.RowKit Go.Deep Go.Shelf

structure Ev where
  task : Int
  ask : Int
  stage : List UInt8
  span : Int
abbrev str (l : List UInt8) : Value := .string ⟨l.toArray⟩
def Ev.cells (x : Ev) : List Value := [.int .i64 x.task, .int .i64 x.ask, str x.stage, .int .i64 x.span]
def Ev.val (x : Ev) : Value := .agg #[.int .i64 x.task, .int .i64 x.ask, str x.stage, .int .i64 x.span]
def fits64 (n : Int) : Prop := -9223372036854775808 ≤ n ∧ n ≤ 9223372036854775807
structure Ev.wf (x : Ev) : Prop where
  task : fits64 x.task
  ask : fits64 x.ask
  span : fits64 x.span

/-- the stages' names -/
def stagesL : List (List UInt8) := [[108, 111, 111, 107], [114, 101, 112, 97, 121], [99, 108, 101, 97, 110], [116, 97, 107, 101], [107, 101, 101, 112], [108, 111, 99, 107], [103, 114, 111, 119], [100, 111], [115, 112, 101, 99, 105, 97, 108], [110, 101, 120, 116], [111, 110, 101], [115, 116, 111, 112], [119, 97, 105, 116], [100, 114, 97, 105, 110], [102, 108, 105, 112]]
def known (s : List UInt8) : Bool := stagesL.contains s
def Ev.right (x : Ev) : Bool := decide (0 ≤ x.task) && (decide (-1 ≤ x.ask) && (decide (0 ≤ x.span) && (decide (max (max x.task x.ask) x.span ≤ 2147483647) && known x.stage)))
def Ev.line (x : Ev) : List UInt8 := Lib.itoa x.task ++ [32] ++ Lib.itoa x.ask ++ [32] ++ x.stage ++ [32] ++ Lib.itoa x.span ++ [10]
def strE (l : List UInt8) : Value := .string (SX.bytesOf l)
/-- a map that has just the stages -/
def AllS (w : World) (b : Nat) : Prop := ∃ m : List (List UInt8 × Value), MapIs strE w b m ∧ ∀ s, mapGet m s = if known s then some (.bool true) else none
theorem AllS.fr {S : Nat → Prop} {w w' : World} {b : Nat} (h : AllS w b) (hf : Fr S w w') (hS : ¬ S b) : AllS w' b := by
  obtain ⟨m, h1, h2⟩ := h; exact ⟨m, h1.fr hf hS, h2⟩

/-- the tables of the library that are read -/
structure Laid (w : World) : Prop where
  sp : Lib.TabIs Tryz.prog w "strings.asciiSpace" .u8 Lib.asciiSpaceTab
  p10 : Lib.TabIs Tryz.prog w "internal/strconv.uint64pow10" .u64 Lib.pow10Tab
  ml : ∃ m, w.cell? ⟨2, 0, none⟩ = some (.int .i64 m)
  e1 : ∃ ev, w.cell? ⟨3, 0, none⟩ = some ev ∧ (ev = .nilIface ∨ ∃ te pe, ev = .iface te pe)
  e2 : ∃ ev, w.cell? ⟨4, 0, none⟩ = some ev ∧ (ev = .nilIface ∨ ∃ te pe, ev = .iface te pe)

set_option maxHeartbeats 2000000 in
set_option maxRecDepth 100000 in
theorem right_h (x : Ev) (_ : x.wf) (w : World) (b : Nat) (hm : AllS w b) :
    Calls Tryz.prog 12 #[x.val, .map (some b)] w fun e w' => e = .returned (.bool x.right) ∧ Fr (fun _ => False) w w' := by
  obtain ⟨m, hm1, hm2⟩ := hm
  have hl : ∀ (w' : World), MapIs strE w' b m → (Instr.lookup 34 (.map (some b)) (str x.stage) false).run Tryz.prog w' = .ok (.bool (known x.stage)) w' := fun w' h => by
    have := run_map_lookup (P := Tryz.prog) (SX.keyLaw_str Tryz.underlying9) Tryz.underlying34 h x.stage (.bool false) (Tryz.zeroValue4 w') false
    rw [hm2] at this
    refine this.trans ?_
    cases known x.stage <;> rfl
  unfold Ev.val
  go_enter Tryz.func12, Tryz.ntmps12
  go_wp2
  all_goals first
    | (go_ret; refine ⟨congrArg (fun c => Ending.returned (Value.bool c)) (show false = x.right from ?_), (Fr.refl _ w).alloc _⟩; symm; unfold Ev.right; rw [Bool.eq_false_iff]; simp only [ne_eq, Bool.and_eq_true, decide_eq_true_eq]; omega)
    | (rw [hl _ (hm1.fr ((Fr.refl (fun _ => False) w).alloc _) (fun h => h))]
       simp only [Result.andThen]
       rw [Oper.upon_value]
       go_wp2
       go_ret
       refine ⟨congrArg (fun c => Ending.returned (Value.bool c)) (show known x.stage = x.right from ?_), (Fr.refl _ w).alloc _⟩
       unfold Ev.right
       rw [decide_eq_true (by omega), decide_eq_true (by omega), decide_eq_true (by omega), decide_eq_true (by omega)]
       rfl)

theorem str_append (a b : List UInt8) : (⟨a.toArray⟩ : ByteArray) ++ ⟨b.toArray⟩ = ⟨(a ++ b).toArray⟩ := by
  apply ByteArray.ext
  simp [ByteArray.data_append]
theorem Laid.at {W w : World} (h : Laid W) (hk : ∀ (i : Nat) (o : Obj), W.heap[i]? = some o → w.heap[i]? = some o) : Laid w := by
  have hv : ∀ n r, W.var? Tryz.prog n = some r → w.var? Tryz.prog n = some r := by
    intro n r hr
    unfold World.var? at hr ⊢
    obtain ⟨g, hg, hr⟩ := Option.bind_eq_some_iff.1 hr
    rw [hg]
    simp only [Option.bind_some]
    split at hr
    next cs a b e => rw [hk _ _ e]; exact hr
    · cases hr
  have hc : ∀ b v, W.cell? ⟨b, 0, none⟩ = some v → w.cell? ⟨b, 0, none⟩ = some v := by
    intro b v hr
    unfold World.cell? at hr ⊢
    split at hr
    next cs a b' e => rw [hk _ _ e]; exact hr
    · cases hr
  exact ⟨hv _ _ h.sp, hv _ _ h.p10, by obtain ⟨m, h⟩ := h.ml; exact ⟨m, hc _ _ h⟩, by obtain ⟨m, h, k⟩ := h.e1; exact ⟨m, hc _ _ h, k⟩, by obtain ⟨m, h, k⟩ := h.e2; exact ⟨m, hc _ _ h, k⟩⟩
theorem Laid.fr {w w' : World} (h : Laid w) (hf : Fr (fun _ => False) w w') : Laid w' := h.at fun _ _ e => Fr.at hf e (fun x => x)
end Go.Proofs.YtcemhpdhcmlhlaaGreatDoor

/-
  trace: the names of the stages, an event's line: by the executor. No condition.
-/
namespace Go.Proofs.YtcemhpdhcmlhlaaGreatDoor
open Go.RowKit Go.Deep Go.Shelf
namespace SX

theorem Fr.of_below {w w' : World} (h : Below w.heap.size w w') : Fr (fun _ => False) w w' := Go.Proofs.YtcemhpdhcmlhlaaGreatDoor.Below.fr h _
/-- strconv.Itoa -/
noncomputable def spItoa : Spec := fun args h n K => match args with
  | [x] => (match intOf .i64 x with
    | some z => if big0 h then .need (fits64 z) (K true (.s ⟨(Lib.itoa z).toArray⟩) h n) else .fail 710
    | none => .fail 711)
  | _ => .fail 712
theorem spItoa_ok {W : World} (hL : Laid W) : SpecEnters Tryz.prog (bigW W) 25 spItoa where
  enter := enter_of Tryz.func25 (bodyOf_eq (by kernel_rfl)) (by kernel_rfl)
  calls := by
    intro C Q args h n K hB hk ρ w vs hv hH hbd
    unfold spItoa at hk
    split at hk
    next x =>
      split at hk
      next z hz =>
        split at hk
        next hb =>
          obtain ⟨v, e1, hx⟩ := hv.one
          have hvz := intOf_rel hz hx
          subst hvz
          have e2 : vs = #[.int .i64 z] := by rw [← Array.toList_inj, e1]
          subst e2
          have hw : Laid w := hL.at fun i o hi => hH.still hB hb hi
          refine (Tryz.strconv_Itoa z hk.1.1 hk.1.2 w hw.p10).mono ?_
          rintro e w' ⟨rfl, k, os, rfl⟩
          exact ⟨true, _, .s ⟨(Lib.itoa z).toArray⟩, h, n, ρ, rfl, by simp only [SV.Rel], hH.quiet (Fr.of_below (Lib.below_grow _ _ (Nat.le_refl _) _ _)), .refl _, hbd, hk.2 hk.1⟩
        · exact hk.elim
      · exact hk.elim
    · exact hk.elim
/-- strings.Fields, at what the stages' names are read from -/
def stagesT : List UInt8 := [108, 111, 111, 107, 32, 114, 101, 112, 97, 121, 32, 99, 108, 101, 97, 110, 32, 116, 97, 107, 101, 32, 107, 101, 101, 112, 32, 108, 111, 99, 107, 32, 103, 114, 111, 119, 32, 100, 111, 32, 115, 112, 101, 99, 105, 97, 108, 32, 110, 101, 120, 116, 32, 111, 110, 101, 32, 115, 116, 111, 112, 32, 119, 97, 105, 116, 32, 100, 114, 97, 105, 110, 32, 102, 108, 105, 112]
noncomputable def spFields : Spec := fun args h n K => match args with
  | [x] => (match x with
    | .t l => if big0 h && eqBy l stagesT then K true (.sl true n 1 0 15 (.c 15)) ((n, .vec 9 1 (stagesL.map fun s => .t s) (.c 15)) :: h) (n + 1) else .fail 713
    | _ => .fail 714)
  | _ => .fail 715
theorem fields_stages : Lib.fields stagesT = stagesL := by decide +kernel
theorem spFields_ok {W : World} (hL : Laid W) : SpecEnters Tryz.prog (bigW W) 23 spFields where
  enter := enter_of Tryz.func23 (bodyOf_eq (by kernel_rfl)) (by kernel_rfl)
  calls := by
    intro C Q args h n K hB hk ρ w vs hv hH hbd
    unfold spFields at hk
    split at hk
    next x =>
      split at hk
      next l =>
        split at hk
        next hb =>
          simp only [Bool.and_eq_true] at hb
          obtain ⟨hb, hl⟩ := hb
          have := eqBy_eq hl
          subst this
          obtain ⟨v, e1, hx⟩ := hv.one
          simp only [SV.Rel] at hx
          subst hx
          have e2 : vs = #[.string (bytesOf stagesT)] := by rw [← Array.toList_inj, e1]
          subst e2
          have hw : Laid w := hL.at fun i o hi => hH.still hB hb hi
          have hd : (bytesOf stagesT).data.toList = stagesT := by simp [bytesOf]
          refine (Tryz.strings_Fields_laid (bytesOf stagesT) w (by decide) (by rw [hd]; intro j b hj; have := List.mem_of_getElem? hj; have h0 : stagesT.all (fun b => decide (b.toNat < 128)) = true := (by decide); exact of_decide_eq_true (List.all_eq_true.1 h0 b this)) hw.sp).mono ?_
          rw [hd, fields_stages]
          rintro e w' ⟨rfl, rfl⟩
          refine ⟨true, _, .sl true n 1 0 15 (.c 15), _, _, upd ρ n w.heap.size, rfl, ?_, ?_, upd_le (hbd _ (Nat.le_refl _)), upd_bd hbd, hk⟩
          · simp only [SV.Rel]
            exact ⟨_, _, rfl, rfl, by decide, fun _ => ⟨_, upd_at _ _ _, fun _ => rfl⟩⟩
          · refine (hH.mono (upd_le (hbd _ (Nat.le_refl _)))).cons (o := .vec 9 1 (stagesL.map fun s => .t s) (.c 15)) (G := [(w.heap.size, .cells (stagesL.map fun l => Value.string ⟨l.toArray⟩).toArray 9 (0, 0))]) ?_ fun Gs hp => hp.new _
            refine ⟨15, rfl, by decide, by decide, .inr ⟨w.heap.size, _, upd_at _ _ _, rfl, by decide, ?_⟩⟩
            rw [List.take_of_length_le (by decide)]
            show RelL _ (stagesL.map fun s => SV.t s) (stagesL.map fun l => Value.string ⟨l.toArray⟩)
            exact RelL.map fun s _ => by show SV.Rel _ (.t s) _; simp only [SV.Rel]; rfl
        · exact hk.elim
      · exact hk.elim
    · exact hk.elim
end SX
end Go.Proofs.YtcemhpdhcmlhlaaGreatDoor

/-
  SX: a call's tree with its end asked. No program in sight.
-/
namespace Go.Proofs.YtcemhpdhcmlhlaaGreatDoor
open Go.RowKit Go.Deep
namespace SX

/-- the end, asked -/
def askK (Q : Bool → SV → Heap → Nat → Prop) : Bool → SV → Heap → Nat → Tree := fun b v h n => .need (Q b v h n) .stop
theorem whole_ask {P : Program} {W : World} {f : FuncId} {sp : Spec} (hs : SpecEnters P (bigW W) f sp) {args : List SV} {vs : Array Value} (hv : RelL ren0 args vs.toList) (Q : Bool → SV → Heap → Nat → Prop)
    (hd : (sp args heap0 1 (askK Q)).den fun _ _ => False) :
    Calls P f vs W fun e w' => ∃ b x h' n' ρ' v, e = Ended b v ∧ SV.Rel ρ' x v ∧ Holds ⟨W, [], bigW W⟩ ρ' h' w' ∧ ρ'.bd n' ∧ Q b x h' n' := by
  refine (hs.calls ⟨W, [], bigW W⟩ _ args heap0 1 (askK Q) rfl hd ren0 W vs hv (whole_start W) (fun b hb => if_neg (by omega))).mono ?_
  rintro e w' ⟨b, v, x, h', n', ρ', rfl, hx, hH, _, hbd, hq, _⟩
  exact ⟨b, x, h', n', ρ', v, rfl, hx, hH, hbd, hq⟩
/-- one thing after another, all wanted -/
def needs : List Prop → Tree → Tree
  | [], k => k
  | p :: l, k => .need p (needs l k)
def allT : List Prop → Prop
  | [] => True
  | p :: l => p ∧ allT l
theorem needs_den {Q : Ex → St → Prop} : ∀ {l : List Prop} {k : Tree}, allT l → k.den Q → (needs l k).den Q
  | [], _, _, h => h
  | _ :: _, _, ⟨h1, h2⟩, h => ⟨h1, fun _ => needs_den h2 h⟩
end SX
end Go.Proofs.YtcemhpdhcmlhlaaGreatDoor

/-
  trace: an event's line; the stages. No condition.
-/
namespace Go.Proofs.YtcemhpdhcmlhlaaGreatDoor
open Go.RowKit Go.Deep Go.Shelf

/-- an event at an address -/
structure EvAt (w : World) (b : Nat) (x : Ev) : Prop where
  c0 : w.cell? ⟨b, 0, none⟩ = some (.int .i64 x.task)
  c1 : w.cell? ⟨b, 1, none⟩ = some (.int .i64 x.ask)
  c2 : w.cell? ⟨b, 2, none⟩ = some (str x.stage)
  c3 : w.cell? ⟨b, 3, none⟩ = some (.int .i64 x.span)
theorem Fr.cell {w w' : World} (h : Fr (fun _ => False) w w') {p : Addr} {v : Value} (hc : w.cell? p = some v) : w'.cell? p = some v := by
  have hlt : p.block < w.heap.size := by
    rcases Nat.lt_or_ge p.block w.heap.size with h1 | h1
    · exact h1
    · unfold World.cell? at hc; rw [Array.getElem?_eq_none h1] at hc; cases hc
  unfold World.cell? at hc ⊢
  rw [h.same _ hlt (fun x => x)]
  exact hc
theorem EvAt.fr {w w' : World} {b : Nat} {x : Ev} (h : EvAt w b x) (hf : Fr (fun _ => False) w w') : EvAt w' b x := ⟨Fr.cell hf h.c0, Fr.cell hf h.c1, Fr.cell hf h.c2, Fr.cell hf h.c3⟩

theorem wp_cat {P : Program} {o : Oper} {a : Act} {w : World} {K : Act → World → Prop} {Q : Exit → Act → World → Prop} (x y : Operand) (t t' : TypeId) (ho : o.op = .binOp .add t x y t') {p q : ByteArray} (hx : a.eval x = .string p) (hy : a.eval y = .string q)
    (hs : p.size + q.size ≤ 9223372036854775807) (hK : K (a.put o.dst (.string (p ++ q))) w) : o.wp P a w K Q := by
  have : ¬ (((p.size + q.size : Nat) : Int) > IntKind.i64.max) := by
    have e : (IntKind.i64.max : Int) = 9223372036854775807 := by decide
    rw [e]; omega
  refine SX.wp_value ?_ hK
  simp only [execOp, ho, hx, hy, Sem.run_bind, SX.guard_str, Result.andThen, binOp, Op.stringOp, if_neg this, Sem.run_pure]
/-- a text and how long it is -/
theorem size_mk (l : List UInt8) : (⟨l.toArray⟩ : ByteArray).size = l.length := by simp [ByteArray.size]

namespace SX
noncomputable def lineT (a b c : Int) (st : ByteArray) (Q : Bool → SV → Heap → Nat → Prop) : Tree :=
  runP Tryz.prog [(25, spItoa)] 14 Tryz.f14 [.agg [.i .i64 a, .i .i64 b, .s st, .i .i64 c]] heap0 1 (askK Q)
def sp1 : ByteArray := bytesOf [32]
def A1 (a : Int) : ByteArray := ⟨(Lib.itoa a).toArray⟩
def longest : Nat → Prop := fun n => ((n : Nat) : Int) ≤ 9223372036854775807
def lineL (a b c : Int) (st : ByteArray) (Q : Bool → SV → Heap → Nat → Prop) : List Prop := [fits64 a, c = c ∧ True, st = st ∧ True, b = b ∧ True,
    longest ((A1 a).size + sp1.size), fits64 b, c = c ∧ True, st = st ∧ True, longest ((A1 a ++ sp1).size + (A1 b).size), longest ((A1 a ++ sp1 ++ A1 b).size + sp1.size),
    longest ((A1 a ++ sp1 ++ A1 b ++ sp1).size + st.size), longest ((A1 a ++ sp1 ++ A1 b ++ sp1 ++ st).size + sp1.size), fits64 c, st = st ∧ True,
    longest ((A1 a ++ sp1 ++ A1 b ++ sp1 ++ st ++ sp1).size + (A1 c).size), longest ((A1 a ++ sp1 ++ A1 b ++ sp1 ++ st ++ sp1 ++ A1 c).size + (bytesOf [10]).size),
    Q true (.s (A1 a ++ sp1 ++ A1 b ++ sp1 ++ st ++ sp1 ++ A1 c ++ bytesOf [10])) [(1, .cells 24 [.i .i64 a, .i .i64 b, .s st, .i .i64 c]), (0, .big .z)] 2]
theorem line_tree (a b c : Int) (st : ByteArray) (Q : Bool → SV → Heap → Nat → Prop) : lineT a b c st Q = needs (lineL a b c st Q) .stop := by kernel_rfl
theorem line_den {a b c : Int} {st : ByteArray} {Q : Bool → SV → Heap → Nat → Prop} {R : Ex → St → Prop} (h : allT (lineL a b c st Q)) : (lineT a b c st Q).den R := by rw [line_tree]; exact needs_den h trivial
end SX
set_option maxRecDepth 100000 in
theorem line_h (x : Ev) (hx : x.wf) (hs : x.stage.length ≤ 1000000000000000) (w : World) (hL : Laid w) :
    Calls Tryz.prog 14 #[x.val] w fun e w' => e = .returned (str x.line) ∧ Fr (fun _ => False) w w' := by
  have l1 := Lib.itoa_length_le _ hx.task.1 hx.task.2
  have l2 := Lib.itoa_length_le _ hx.ask.1 hx.ask.2
  have l3 := Lib.itoa_length_le _ hx.span.1 hx.span.2
  refine (SX.whole_ask (SX.runP_ok SX.fit (SX.cons_ok (.inl (SX.spItoa_ok hL)) SX.nil_ok) Tryz.func14 (by kernel_rfl)) (args := [.agg [.i .i64 x.task, .i .i64 x.ask, .s ⟨x.stage.toArray⟩, .i .i64 x.span]]) (vs := #[x.val]) ?_
    (fun b v h _ => b = true ∧ v = .s ⟨x.line.toArray⟩ ∧ SX.big0 h = true) ?_).mono ?_
  · refine .cons ?_ .nil
    simp only [SX.SV.Rel]
    exact ⟨_, rfl, .cons (by simp only [SX.SV.Rel]) (.cons (by simp only [SX.SV.Rel]) (.cons (by simp only [SX.SV.Rel]) (.cons (by simp only [SX.SV.Rel]) .nil)))⟩
  · refine SX.line_den ?_
    simp only [SX.lineL, SX.allT, SX.longest, SX.A1, SX.sp1, SX.bytesOf, str_append, size_mk, List.length_append, List.length_singleton, and_true, true_and]
    have h1 := hx.task
    have h2 := hx.ask
    have h3 := hx.span
    refine ⟨h1, by omega, h2, by omega, by omega, by omega, by omega, h3, by omega, by omega, ?_, rfl⟩
    rfl
  · rintro e w' ⟨b, v, h, n, ρ, u, rfl, hr, hH, _, rfl, rfl, hb⟩
    simp only [SX.SV.Rel] at hr
    subst hr
    exact ⟨rfl, hH.frW hb⟩

theorem lookup_all (l : List (List UInt8)) (v : Value) (s : List UInt8) : mapGet (l.map fun k => (k, v)) s = if l.contains s then some v else none := by
  induction l with
  | nil => rfl
  | cons k l ih =>
    rw [List.map_cons, SX.mapGet_cons, ih, List.contains_cons]
    by_cases h : s = k
    · simp [h]
    · have : (s == k) = false := by simpa using h
      simp [h, this]
namespace SX
theorem MR_stages {ρ : Ren} : ∀ {l : List (List UInt8)} {m : List (List UInt8 × Value)}, MR ρ (l.map fun s => (s, SV.tt)) m → m = l.map fun s => (s, .bool true)
  | [], _, r => r
  | s :: l, m, r => by
    obtain ⟨v, q, rfl, h1, h2⟩ := r
    rw [MR_stages h2]
    have h1 : SV.Rel ρ .tt v := h1
    simp only [SV.Rel] at h1
    rw [h1]; rfl
def STh : Heap := [(1, mps (stagesL.map fun s => (s, .tt))), (0, .big .z)]
theorem st_sure : (runP Tryz.prog ((23, spFields) :: wt0) 11 Tryz.f11 [] heap0 1 tellK).sure (isRes (.m 1) STh 3) = true := by kernel_rfl
end SX
theorem stages_h (w : World) (hL : Laid w) :
    Calls Tryz.prog 11 #[] w fun e w' => ∃ b, e = .returned (.map (some b)) ∧ AllS w' b ∧ w.heap.size ≤ b ∧ Fr (fun _ => False) w w' := by
  refine (SX.whole_sure (SX.runP_ok SX.fit (SX.cons_ok (.inl (SX.spFields_ok hL)) (SX.wt0_ok _)) Tryz.func11 (by kernel_rfl)) (args := []) (vs := #[]) (by simp only [SX.RelL]) SX.st_sure).mono ?_
  rintro e w' ⟨v, ρ', rfl, hv, hH⟩
  simp only [SX.SV.Rel] at hv
  obtain ⟨g, hg, rfl⟩ := hv
  have hf := hH.frW rfl
  obtain ⟨Gs, r, hp⟩ := hH
  obtain ⟨G1, _, rfl, r1, G0, _, rfl, r0, rfl⟩ := r
  obtain ⟨g', m, hg', hm, hG⟩ := r1
  rw [hg] at hg'
  cases hg'
  obtain ⟨_, _, hG0⟩ := r0
  have hG0 : G0 = SX.allG w := hG0
  subst hG0
  have hm' := SX.MR_stages hm
  have hM : MapIs strE w' g m := hp.map hG
  refine ⟨g, rfl, ⟨m, hM, fun s => by rw [hm']; exact lookup_all _ _ _⟩, ?_, hf⟩
  rcases Nat.lt_or_ge g w.heap.size with h1 | h1
  · exfalso
    obtain ⟨es, c, rfl, _⟩ := hG
    have h2 : (g, w.heap[g]'h1) ∈ SX.allG w := SX.allG_mem (Array.getElem?_eq_getElem h1)
    exact hp.apart (g, w.heap[g]'h1) (List.mem_flatten.2 ⟨SX.allG w, by simp, h2⟩) rfl
  · exact h1
end Go.Proofs.YtcemhpdhcmlhlaaGreatDoor

/-
  SX: in the midst of a walk: two blocks of cells are known, all else stays. No program in sight.
-/
namespace Go.Proofs.YtcemhpdhcmlhlaaGreatDoor
open Go.RowKit Go.Deep
namespace SX

/-- a region of a body -/
def regionAt (n : Nat) : Code → Code
  | .seq a b => match regionAt n a with | .skip => regionAt n b | c => c
  | .cond _ a b => match regionAt n a with | .skip => regionAt n b | c => c
  | .block _ a => regionAt n a
  | .loop a => regionAt n a
  | .region k ops d => if k == n then .region k ops d else .skip
  | _ => .skip
/-- slots of which nothing is known -/
def dark (n : Nat) : Slots := .all n (.all (.all .junk))
theorem sget_dark (n j : Nat) : sget (dark n) j = .junk := by
  by_cases h : 512 ≤ j
  · exact sget_out _ _ h
  · unfold sget
    rw [acc_eq]
    have h1 : j / 64 < 8 := by omega
    have h2 : j / 8 % 8 < 8 := Nat.mod_lt _ (by omega)
    have h3 : j % 8 < 8 := Nat.mod_lt _ (by omega)
    have e1 : Slots.get (j / 64) (dark n) = .all (.all .junk) := by
      generalize j / 64 = q at h1
      match q, h1 with
      | 0, _ | 1, _ | 2, _ | 3, _ | 4, _ | 5, _ | 6, _ | 7, _ => rfl
    have e2 : Q8.get (j / 8 % 8) (.all (.all .junk)) = .all .junk := by
      generalize j / 8 % 8 = q at h2
      match q, h2 with
      | 0, _ | 1, _ | 2, _ | 3, _ | 4, _ | 5, _ | 6, _ | 7, _ => rfl
    have e3 : R8.get (j % 8) (.all .junk) = .junk := by
      generalize j % 8 = q at h3
      match q, h3 with
      | 0, _ | 1, _ | 2, _ | 3, _ | 4, _ | 5, _ | 6, _ | 7, _ => rfl
    simp only [accG]
    rw [e1, e2, e3]
theorem dark_rel (ρ : Ren) (vs : List Value) : RelS ρ (dark vs.length) vs := ⟨rfl, fun j => by rw [sget_dark]; simp only [SV.Rel]⟩
theorem RelS.know {ρ : Ren} {s : Slots} {vs : List Value} (h : RelS ρ s vs) (i : Nat) {x : SV} (hx : x.Rel ρ (vs.getD i undef)) : RelS ρ (sset s i x) vs := by
  by_cases hi : i < vs.length
  · have := h.set i hx
    have e : vs.set i (vs.getD i undef) = vs := by
      rw [List.getD_eq_getElem?_getD, List.getElem?_eq_getElem hi, Option.getD_some, List.set_getElem_self]
    rwa [e] at this
  · rw [sset_eq, if_neg (by rw [h.1]; exact hi)]; exact h
def ren2 (g1 g2 : Nat) : Ren := fun b => if b = 1 then some g1 else if b = 2 then some g2 else none
def rest2 (w : World) (g1 g2 : Nat) : Grp := (allG w).filter fun x => x.1 != g1 && x.1 != g2
theorem mid2 {w : World} {g1 g2 t1 t2 : Nat} {c1 c2 : Array Value} (h1 : w.heap[g1]? = some (.cells c1 t1 (0, 0))) (h2 : w.heap[g2]? = some (.cells c2 t2 (0, 0))) (hne : g1 ≠ g2) {l1 l2 : List SV}
    (r1 : RelL (ren2 g1 g2) l1 c1.toList) (r2 : RelL (ren2 g1 g2) l2 c2.toList) (B : BigRep) : Holds ⟨w, [rest2 w g1 g2], B⟩ (ren2 g1 g2) [(2, .cells t2 l2), (1, .cells t1 l1)] w := by
  refine ⟨[[(g2, .cells c2 t2 (0, 0))], [(g1, .cells c1 t1 (0, 0))]], ⟨_, _, rfl, ⟨g2, c2, rfl, rfl, r2⟩, ⟨_, _, rfl, ⟨g1, c1, rfl, rfl, r1⟩, rfl⟩⟩, ⟨⟨rfl, rfl, rfl⟩, ?_, ?_⟩⟩
  · simp only [List.cons_append, List.nil_append, List.flatten_cons, List.flatten_nil, List.append_nil, List.map_cons, List.nodup_cons, List.mem_cons, List.mem_map, not_or]
    refine ⟨⟨fun e => hne e.symm, ?_⟩, ?_, ?_⟩
    · rintro ⟨x, hx, e⟩
      have := (List.mem_filter.1 hx).2
      simp [e] at this
    · rintro ⟨x, hx, e⟩
      have := (List.mem_filter.1 hx).2
      simp [e] at this
    · refine List.Nodup.sublist ((List.filter_sublist).map _) ?_
      rw [allG_fst]; exact List.nodup_range
  · intro x hx
    simp only [List.cons_append, List.nil_append, List.flatten_cons, List.flatten_nil, List.append_nil, List.mem_cons] at hx
    rcases hx with rfl | rfl | hx
    · exact h2
    · exact h1
    · exact allG_is (List.mem_filter.1 hx).1
/-- what is then known -/
theorem mid2_fr {w w' : World} {g1 g2 t1 t2 : Nat} {B : BigRep} {ρ : Ren} {h : Heap} {l1 l2 : List SV} (H : Holds ⟨w, [rest2 w g1 g2], B⟩ ρ h w') (e1 : ρ 1 = some g1) (e2 : ρ 2 = some g2) (k1 : h.get 1 = some (.cells t1 l1)) (k2 : h.get 2 = some (.cells t2 l2)) :
    Fr (fun b => b = g1 ∨ b = g2) w w' ∧ ∃ c : Array Value, w'.heap[g1]? = some (.cells c t1 (0, 0)) ∧ RelL ρ l1 c.toList := by
  have b1 : ∃ c : Array Value, w'.heap[g1]? = some (.cells c t1 (0, 0)) ∧ RelL ρ l1 c.toList := by
    obtain ⟨G, R', r, hp, _⟩ := H.focus k1
    obtain ⟨g, c, hg, rfl, hr⟩ := r
    rw [e1] at hg; cases hg
    exact ⟨c, hp.blk, hr⟩
  have b2 : ∃ o, w'.heap[g2]? = some o := by
    obtain ⟨G, R', r, hp, _⟩ := H.focus k2
    obtain ⟨g, c, hg, rfl, hr⟩ := r
    rw [e2] at hg; cases hg
    exact ⟨_, hp.blk⟩
  obtain ⟨Gs, r, hp⟩ := H
  have key : ∀ (i : Nat) (o : Obj), w.heap[i]? = some o → i ≠ g1 → i ≠ g2 → w'.heap[i]? = some o := by
    intro i o hi n1 n2
    refine hp.has (i, o) ?_
    simp only [List.flatten_append, List.flatten_cons, List.flatten_nil, List.append_nil, List.mem_append]
    exact .inr (List.mem_filter.2 ⟨allG_mem hi, by simp [n1, n2]⟩)
  refine ⟨⟨hp.io.1, hp.io.2.1, hp.io.2.2, ?_, fun b hb hn => ?_⟩, b1⟩
  · rcases Nat.lt_or_ge w'.heap.size w.heap.size with h1 | h1
    · have h2 : w.heap[w'.heap.size]? = some (w.heap[w'.heap.size]'h1) := Array.getElem?_eq_getElem _
      have no : w'.heap[w'.heap.size]? = none := Array.getElem?_eq_none (Nat.le_refl _)
      by_cases n1 : w'.heap.size = g1
      · obtain ⟨c, hc, _⟩ := b1
        rw [← n1, no] at hc; cases hc
      · by_cases n2 : w'.heap.size = g2
        · obtain ⟨o, ho⟩ := b2
          rw [← n2, no] at ho; cases ho
        · rw [key _ _ h2 n1 n2] at no; cases no
    · exact h1
  · have h2 : w.heap[b]? = some (w.heap[b]'hb) := Array.getElem?_eq_getElem _
    rw [key _ _ h2 (fun e => hn (.inl e)) (fun e => hn (.inr e)), h2]
/-- the end of a piece of code, asked -/
def askC (Q : Ex → Slots → Heap → Prop) : Kont := fun e st => noD st (.need (Q e st.tm st.hp) .stop)
end SX
end Go.Proofs.YtcemhpdhcmlhlaaGreatDoor

/-
  trace: the last region of read, where the event is not right. Condition: it is not right.
-/
namespace Go.Proofs.YtcemhpdhcmlhlaaGreatDoor
open Go.RowKit Go.Deep Go.Shelf
theorem AllS.at {w w' : World} {b : Nat} (h : AllS w b) (hf : ∀ o, w.heap[b]? = some o → w'.heap[b]? = some o) : AllS w' b := by
  obtain ⟨m, ⟨es, clock, h1, h2⟩, h3⟩ := h
  exact ⟨m, ⟨es, clock, hf _ h1, h2⟩, h3⟩
namespace SX
/-- the model: all that was there but two blocks -/
def bigR (w : World) (g1 g2 : Nat) : BigRep := fun _ _ G => G = rest2 w g1 g2
def ren3 (g1 g2 : Nat) : Ren := fun b => if b = 1 then some g1 else if b = 2 then some g2 else if b = 0 then some 0 else none
theorem mid3 {w : World} {g1 g2 t1 t2 : Nat} {c1 c2 : Array Value} (h1 : w.heap[g1]? = some (.cells c1 t1 (0, 0))) (h2 : w.heap[g2]? = some (.cells c2 t2 (0, 0))) (hne : g1 ≠ g2) {l1 l2 : List SV}
    (r1 : RelL (ren3 g1 g2) l1 c1.toList) (r2 : RelL (ren3 g1 g2) l2 c2.toList) : Holds ⟨w, [], bigR w g1 g2⟩ (ren3 g1 g2) [(2, .cells t2 l2), (1, .cells t1 l1), (0, .big .z)] w := by
  refine ⟨[[(g2, .cells c2 t2 (0, 0))], [(g1, .cells c1 t1 (0, 0))], rest2 w g1 g2], ⟨_, _, rfl, ⟨g2, c2, rfl, rfl, r2⟩, ⟨_, _, rfl, ⟨g1, c1, rfl, rfl, r1⟩, ⟨_, _, rfl, ⟨0, rfl, rfl⟩, rfl⟩⟩⟩, ⟨⟨rfl, rfl, rfl⟩, ?_, ?_⟩⟩
  · simp only [List.cons_append, List.nil_append, List.flatten_cons, List.flatten_nil, List.append_nil, List.map_cons, List.nodup_cons, List.mem_cons, List.mem_map, not_or]
    refine ⟨⟨fun e => hne e.symm, ?_⟩, ?_, ?_⟩
    · rintro ⟨x, hx, e⟩
      have := (List.mem_filter.1 hx).2
      simp [e] at this
    · rintro ⟨x, hx, e⟩
      have := (List.mem_filter.1 hx).2
      simp [e] at this
    · refine List.Nodup.sublist ((List.filter_sublist).map _) ?_
      rw [allG_fst]; exact List.nodup_range
  · intro x hx
    simp only [List.cons_append, List.nil_append, List.flatten_cons, List.flatten_nil, List.append_nil, List.mem_cons] at hx
    rcases hx with rfl | rfl | hx
    · exact h2
    · exact h1
    · exact allG_is (List.mem_filter.1 hx).1
theorem Holds.stillR {C : Ctx} {W : World} {g1 g2 : Nat} (hB : C.B = bigR W g1 g2) {ρ : Ren} {h : Heap} {w : World} (H : Holds C ρ h w) (e : big0 h = true) {i : Nat} {o : Obj} (hi : W.heap[i]? = some o) (n1 : i ≠ g1) (n2 : i ≠ g2) : w.heap[i]? = some o := by
  obtain ⟨G, R', r, hp, _⟩ := H.focus (big0_get e)
  obtain ⟨g, _, hG⟩ := r
  rw [hB] at hG
  have hG : G = rest2 W g1 g2 := hG
  subst hG
  refine hp.has (i, o) ?_
  simp only [List.flatten_cons, List.mem_append]
  exact .inl (List.mem_filter.2 ⟨allG_mem hi, by simp [n1, n2]⟩)
/-- what is then known -/
theorem mid3_fr {w w' : World} {g1 g2 t1 t2 : Nat} {ρ : Ren} {h : Heap} {l1 l2 : List SV} (H : Holds ⟨w, [], bigR w g1 g2⟩ ρ h w') (e1 : ρ 1 = some g1) (e2 : ρ 2 = some g2) (k0 : big0 h = true) (k1 : h.get 1 = some (.cells t1 l1)) (k2 : h.get 2 = some (.cells t2 l2)) :
    Fr (fun b => b = g1 ∨ b = g2) w w' ∧ ∃ c : Array Value, w'.heap[g1]? = some (.cells c t1 (0, 0)) ∧ RelL ρ l1 c.toList := by
  have b1 : ∃ c : Array Value, w'.heap[g1]? = some (.cells c t1 (0, 0)) ∧ RelL ρ l1 c.toList := by
    obtain ⟨G, R', r, hp, _⟩ := H.focus k1
    obtain ⟨g, c, hg, rfl, hr⟩ := r
    rw [e1] at hg; cases hg
    exact ⟨c, hp.blk, hr⟩
  have b2 : ∃ o, w'.heap[g2]? = some o := by
    obtain ⟨G, R', r, hp, _⟩ := H.focus k2
    obtain ⟨g, c, hg, rfl, hr⟩ := r
    rw [e2] at hg; cases hg
    exact ⟨_, hp.blk⟩
  have key := fun {i : Nat} {o : Obj} (hi : w.heap[i]? = some o) => H.stillR rfl k0 hi
  obtain ⟨Gs, r, hp⟩ := H
  refine ⟨⟨hp.io.1, hp.io.2.1, hp.io.2.2, ?_, fun b hb hn => ?_⟩, b1⟩
  · rcases Nat.lt_or_ge w'.heap.size w.heap.size with h1 | h1
    · have h2 : w.heap[w'.heap.size]? = some (w.heap[w'.heap.size]'h1) := Array.getElem?_eq_getElem _
      have no : w'.heap[w'.heap.size]? = none := Array.getElem?_eq_none (Nat.le_refl _)
      by_cases n1 : w'.heap.size = g1
      · obtain ⟨c, hc, _⟩ := b1
        rw [← n1, no] at hc; cases hc
      · by_cases n2 : w'.heap.size = g2
        · obtain ⟨o, ho⟩ := b2
          rw [← n2, no] at ho; cases ho
        · rw [key h2 n1 n2] at no; cases no
    · exact h1
  · have h2 : w.heap[b]? = some (w.heap[b]'hb) := Array.getElem?_eq_getElem _
    rw [key h2 (fun e => hn (.inl e)) (fun e => hn (.inr e)), h2]

/-- right, of an event that is not -/
noncomputable def spRt (m : Nat) : Spec := fun args h n K => match args with
  | [x, y] => (match x with
    | .agg l => (match l with
      | [a, b, c, d] => (match a with
        | .i k1 a => (match b with
          | .i k2 b => (match c with
            | .s c => (match d with
              | .i k3 d => (match y with
                | .v v => if big0 h then .need (v = .map (some m) ∧ Ev.wf ⟨a, b, c.data.toList, d⟩ ∧ Ev.right ⟨a, b, c.data.toList, d⟩ = false ∧ k1 = .i64 ∧ k2 = .i64 ∧ k3 = .i64) (K true .ff h n) else .fail 721
                | _ => .fail 722)
              | _ => .fail 723)
            | _ => .fail 724)
          | _ => .fail 725)
        | _ => .fail 726)
      | _ => .fail 727)
    | _ => .fail 728)
  | _ => .fail 729
theorem spRt_ok {w0 : World} {g1 g2 m : Nat} (hm : AllS w0 m) (n1 : m ≠ g1) (n2 : m ≠ g2) : SpecEnters Tryz.prog (bigR w0 g1 g2) 12 (spRt m) where
  enter := enter_of Tryz.func12 (bodyOf_eq (by kernel_rfl)) (by kernel_rfl)
  calls := by
    intro C Q args h n K hB hk ρ w vs hv hH hbd
    unfold spRt at hk
    split at hk
    next x y =>
      split at hk <;> try exact hk.elim
      next l =>
        split at hk <;> try exact hk.elim
        next a b c d =>
          split at hk <;> try exact hk.elim
          split at hk <;> try exact hk.elim
          split at hk <;> try exact hk.elim
          split at hk <;> try exact hk.elim
          split at hk <;> try exact hk.elim
          split at hk <;> try exact hk.elim
          next k1 a _ k2 b _ c _ k3 d _ v hb =>
          replace hk := And.intro hk.1 (hk.2 hk.1)
          obtain ⟨⟨rfl, hwf, hr, rfl, rfl, rfl⟩, hk⟩ := hk
          obtain ⟨u, us, e1, hu, hus⟩ := hv
          obtain ⟨u2, us2, rfl, hu2, rfl⟩ := hus
          simp only [SV.Rel] at hu hu2
          obtain ⟨ws, rfl, hws⟩ := hu
          subst hu2
          simp only [RelL, SV.Rel] at hws
          obtain ⟨_, _, hw, rfl, _, _, rfl, rfl, _, _, rfl, rfl, _, _, rfl, rfl, rfl⟩ := hws
          have e2 : vs = #[(⟨a, b, c.data.toList, d⟩ : Ev).val, .map (some m)] := by
            rw [← Array.toList_inj, e1]
            have : ws = #[.int .i64 a, .int .i64 b, .string c, .int .i64 d] := by rw [← Array.toList_inj, hw]
            rw [this]; rfl
          subst e2
          refine (right_h _ hwf w m (hm.at fun o ho => hH.stillR hB hb ho n1 n2)).mono ?_
          rintro e w' ⟨rfl, hf⟩
          exact ⟨true, _, .ff, h, n, ρ, rfl, by simp only [SV.Rel]; rw [hr], hH.quiet hf, .refl _, hbd, hk⟩
    · exact hk.elim
noncomputable def rdA (m : Nat) : All := allP Tryz.prog [(12, spRt m)]
noncomputable def rdE (m : Nat) : Env := (rdA m).env ((rdA m).inl 2) {}
theorem rdE_ok {w0 : World} {g1 g2 m : Nat} (hm : AllS w0 m) (n1 : m ≠ g1) (n2 : m ≠ g2) : EnvOk Tryz.prog (bigR w0 g1 g2) (rdE m) := AllOk.env (allP_ok fit (cons_ok (.inl (spRt_ok hm n1 n2)) nil_ok)) ((allP_ok fit (cons_ok (.inl (spRt_ok hm n1 n2)) nil_ok)).inl 2) {}
noncomputable def rd0 (m : Nat) : Slots := sset (sset (sset (sset (dark 53) 1 (.v (.map (some m)))) 4 (.p 1 (.c 0))) 5 .ff) 7 (.p 2 (.c 0))
noncomputable def rdC : Code := regionAt 8 (bodyOf Tryz.f19)
def rdS (a b d : Int) (c : ByteArray) : List SV := [.i .i64 a, .i .i64 b, .s c, .i .i64 d]
def rd0S : List SV := [.l .i64 0, .l .i64 0, .t [], .l .i64 0]
def rdH (a b d : Int) (c : ByteArray) : Heap := [(2, .cells 24 (rdS a b d c)), (1, .cells 24 (rdS a b d c)), (0, .big .z)]
noncomputable def askRd (R : Ex → SV → SV → Heap → Prop) : Kont := fun e st => noD st (.need (R e (sget st.tm 4) (sget st.tm 5) st.hp) .stop)
noncomputable def rdT (m : Nat) (a b d : Int) (c : ByteArray) (R : Ex → SV → SV → Heap → Prop) : Tree :=
  exC (rdE m) rdC 0 (askRd R) ⟨rd0 m, [(2, .cells 24 (rdS a b d c)), (1, .cells 24 rd0S), (0, .big .z)], 3, []⟩
set_option maxRecDepth 100000 in
theorem rd_tree (m : Nat) (a b d : Int) (c : ByteArray) (R : Ex → SV → SV → Heap → Prop) : rdT m a b d c R =
    .need (Value.map (some m) = Value.map (some m) ∧ Ev.wf ⟨a, b, c.data.toList, d⟩ ∧ Ev.right ⟨a, b, c.data.toList, d⟩ = false ∧ IntKind.i64 = IntKind.i64 ∧ IntKind.i64 = IntKind.i64 ∧ IntKind.i64 = IntKind.i64)
      (.need (a = a ∧ b = b ∧ c = c ∧ d = d ∧ True) (.need (R .n (.p 1 (.c 0)) .ff (rdH a b d c)) .stop)) := by kernel_rfl
def rdR (a b d : Int) (c : ByteArray) : Ex → SV → SV → Heap → Prop := fun e p o h => e = .n ∧ p = .p 1 (.c 0) ∧ o = .ff ∧ h = rdH a b d c
set_option maxRecDepth 100000 in
/-- the last region of read, where the event is not right -/
theorem rd_h {m : Nat} {a b d : Int} {c : List UInt8} {w : World} {g1 g2 : Nat} (hm : AllS w m) (n1 : m ≠ g1) (n2 : m ≠ g2) (hwf : Ev.wf ⟨a, b, c, d⟩) (hr : Ev.right ⟨a, b, c, d⟩ = false)
    (h1 : w.heap[g1]? = some (.cells #[.int .i64 0, .int .i64 0, .string ⟨#[]⟩, .int .i64 0] 24 (0, 0))) (h2 : w.heap[g2]? = some (.cells #[.int .i64 a, .int .i64 b, str c, .int .i64 d] 24 (0, 0))) (hne : g1 ≠ g2)
    {A : Act} (hl : A.tmps.size = 53) (hd : A.defers = []) (s1 : A.tmps.toList.getD 1 undef = .map (some m)) (s4 : A.tmps.toList.getD 4 undef = .pointer (some ⟨g1, 0, none⟩)) (s5 : A.tmps.toList.getD 5 undef = .bool false) (s7 : A.tmps.toList.getD 7 undef = .pointer (some ⟨g2, 0, none⟩)) {K : Act → World → Prop} {Q : Exit → Act → World → Prop}
    (hK : ∀ (A' : Act) (w' : World), A'.defers = [] → A'.tmps.toList.getD 4 undef = .pointer (some ⟨g1, 0, none⟩) → A'.tmps.toList.getD 5 undef = .bool false → w'.heap[g1]? = some (.cells #[.int .i64 a, .int .i64 b, str c, .int .i64 d] 24 (0, 0)) → Fr (fun b => b = g1 ∨ b = g2) w w' → K A' w') :
    rdC.wp Tryz.prog (Exit.then K Q) A w := by
  have hden : (rdT m a b d ⟨c.toArray⟩ (rdR a b d ⟨c.toArray⟩)).den (fun _ _ => False) := by
    rw [rd_tree]
    exact ⟨⟨rfl, hwf, hr, rfl, rfl, rfl⟩, fun _ => ⟨⟨rfl, rfl, rfl, rfl, trivial⟩, fun _ => ⟨⟨rfl, rfl, rfl, rfl⟩, fun _ => trivial⟩⟩⟩
  have hh := mid3 h1 h2 hne (l1 := rd0S) (l2 := rdS a b d ⟨c.toArray⟩) (.cons (by simp only [SV.Rel]) (.cons (by simp only [SV.Rel]) (.cons (by simp only [SV.Rel]; rfl) (.cons (by simp only [SV.Rel]) .nil)))) (.cons (by simp only [SV.Rel]) (.cons (by simp only [SV.Rel]) (.cons (by simp only [SV.Rel]) (.cons (by simp only [SV.Rel]) .nil))))
  have ht : RelS (ren3 g1 g2) (rd0 m) A.tmps.toList := by
    have h0 := dark_rel (ren3 g1 g2) A.tmps.toList
    rw [Array.length_toList, hl] at h0
    exact (((h0.know 1 (x := .v (.map (some m))) (by simp only [SV.Rel]; exact s1)).know 4 (x := .p 1 (.c 0)) (by simp only [SV.Rel]; exact ⟨g1, rfl, s4⟩)).know 5 (x := .ff) (by simp only [SV.Rel]; exact s5)).know 7 (x := .p 2 (.c 0)) (by simp only [SV.Rel]; exact ⟨g2, rfl, s7⟩)
  refine exC_snd (C := ⟨w, [], bigR w g1 g2⟩) (rdE_ok hm n1 n2) rdC 0 (askRd (rdR a b d ⟨c.toArray⟩)) _ hden (ren3 g1 g2) (ren3 g1 g2) A w ⟨hh, ht, by rw [hd]; rfl, fun b hb => ?_, .refl _⟩ _ ?_
  · unfold ren3
    have hb : 3 ≤ b := hb
    rw [if_neg (by omega), if_neg (by omega), if_neg (by omega)]
  · intro e ex st' ρ' A' w' hx _ H' hk'
    obtain ⟨hdf, ⟨rfl, q2, q3, q4⟩, _⟩ := noD_snd hk'
    have hx : ex = .normal := hx
    subst hx
    have hd' := H'.df
    rw [hdf] at hd'
    have hh' := H'.hp
    rw [q4] at hh'
    have k1 : ρ' 1 = some g1 := H'.le _ _ rfl
    have k2 : ρ' 2 = some g2 := H'.le _ _ rfl
    obtain ⟨hfr, cs, hb, hr⟩ := mid3_fr hh' k1 k2 rfl rfl rfl
    have r2 := H'.tm.get 4
    rw [q2] at r2
    simp only [SV.Rel] at r2
    obtain ⟨g, hg, r2⟩ := r2
    rw [k1] at hg
    cases hg
    have r3 := H'.tm.get 5
    rw [q3] at r3
    simp only [SV.Rel] at r3
    refine hK A' w' hd' r2 r3 ?_ hfr
    rw [hb]
    simp only [rdS, RelL, SV.Rel] at hr
    obtain ⟨v1, l1, e1, rfl, v2, l2, rfl, rfl, v3, l3, rfl, rfl, v4, l4, rfl, rfl, rfl⟩ := hr
    rw [show cs = #[.int .i64 a, .int .i64 b, str c, .int .i64 d] from by rw [← Array.toList_inj, e1]]
end SX
end Go.Proofs.YtcemhpdhcmlhlaaGreatDoor

/-
  Plain facts: a text cut at a byte; a numeral read back. No program in sight.
-/
namespace Go.Proofs.YtcemhpdhcmlhlaaGreatDoor

/-- a text cut at each byte c -/
def cutS (c : UInt8) : List UInt8 → List (List UInt8)
  | [] => [[]]
  | b :: l => if b = c then [] :: cutS c l else match cutS c l with
    | [] => [[b]]
    | p :: ps => (b :: p) :: ps
theorem cutS_ne (c : UInt8) (l : List UInt8) : cutS c l ≠ [] := by
  cases l with
  | nil => simp [cutS]
  | cons b l =>
    simp only [cutS]
    split
    · simp
    · split <;> simp
theorem cutS_app {c : UInt8} : ∀ {a : List UInt8} (b : List UInt8), c ∉ a → cutS c (a ++ c :: b) = a :: cutS c b
  | [], b, _ => by simp [cutS]
  | x :: a, b, h => by
    have hx : x ≠ c := fun e => h (by simp [e])
    have ih := cutS_app b (fun hc => h (List.mem_cons_of_mem _ hc) : c ∉ a)
    simp only [List.cons_append, cutS, if_neg hx, ih]
theorem cutS_none {c : UInt8} : ∀ {a : List UInt8}, c ∉ a → cutS c a = [a]
  | [], _ => rfl
  | x :: a, h => by
    have hx : x ≠ c := fun e => h (by simp [e])
    have ih := cutS_none (fun hc => h (List.mem_cons_of_mem _ hc) : c ∉ a)
    simp only [cutS, if_neg hx, ih]
theorem index_cut {c : UInt8} : ∀ {s : List UInt8}, c ∈ s → ∃ a b, s = a ++ c :: b ∧ c ∉ a
  | x :: s, h => by
    by_cases e : x = c
    · exact ⟨[], s, by simp [e], by simp⟩
    · have hs : c ∈ s := by
        rcases List.mem_cons.1 h with h | h
        · exact absurd h.symm e
        · exact h
      obtain ⟨a, b, rfl, ha⟩ := index_cut hs
      exact ⟨x :: a, b, rfl, fun hc => by
        rcases List.mem_cons.1 hc with h | h
        · exact e h.symm
        · exact ha h⟩
theorem occ_one (s : List UInt8) (c : UInt8) (i : Nat) (hi : i < s.length) : Lib.occAt s [c] i = (s[i]? == some c) := by
  rw [Lib.occAt_iff_take s [c] i (by simp; omega)]
  have : (s.drop i).take [c].length = [s[i]] := by
    simp [List.take_one, List.head?_drop, List.getElem?_eq_getElem hi]
  rw [this, List.getElem?_eq_getElem hi]
  simp
theorem index_at {a b : List UInt8} {c : UInt8} (ha : c ∉ a) : Lib.index (a ++ c :: b) [c] = (a.length : Int) := by
  refine Lib.index_first (by simp) ?_ ?_
  · rw [occ_one _ _ _ (by simp)]; simp
  · intro j hj
    rw [occ_one _ _ _ (by simp; omega), List.getElem?_append_left hj, List.getElem?_eq_getElem hj]
    simp only [Option.some_beq_some, beq_eq_false_iff_ne, ne_eq]
    exact fun e => ha (e ▸ List.getElem_mem hj)
theorem index_no {a : List UInt8} {c : UInt8} (ha : c ∉ a) : Lib.index a [c] = -1 := by
  refine Lib.index_none fun j hj => ?_
  rcases Nat.lt_or_ge j a.length with h | h
  · rw [occ_one _ _ _ h, List.getElem?_eq_getElem h]
    simp only [Option.some_beq_some, beq_eq_false_iff_ne, ne_eq]
    exact fun e => ha (e ▸ List.getElem_mem h)
  · cases h1 : Lib.occAt a [c] j with
    | false => rfl
    | true =>
      rcases Lib.occAt_room h1 with h2 | h2
      · simp at h2; omega
      · cases h2
/-- strings.Split at one byte -/
theorem split_cut (c : UInt8) : ∀ (n : Nat) (s : List UInt8), s.length ≤ n → Lib.split s [c] = cutS c s := by
  intro n
  induction n with
  | zero =>
    intro s h
    have : s = [] := List.eq_nil_of_length_eq_zero (by omega)
    subst this
    unfold Lib.split
    rw [Lib.count_miss (index_no (by simp))]
    rfl
  | succ n ih =>
    intro s h
    unfold Lib.split
    by_cases hc : c ∈ s
    · obtain ⟨a, b, rfl, ha⟩ := index_cut hc
      have hi := index_at (b := b) ha
      rw [Lib.count_hit (by simp) hi, Nat.add_comm, Lib.splitK, hi]
      have hd : (a ++ c :: b).drop (a.length + [c].length) = b := by simp
      rw [if_neg (by simp), cutS_app _ ha, hd]
      have e1 : ((a.length : Int).toNat + 0) = a.length := by omega
      have e2 : ((a.length : Int).toNat + [c].length) = a.length + 1 := by simp
      have hd' : (a ++ c :: b).drop (a.length + 1) = b := by simp
      rw [e1, e2, hd', List.take_left']
      · rw [← ih b (by simp at h; omega)]; rfl
      · rfl
    · rw [Lib.count_miss (index_no hc), cutS_none hc]; rfl

/-! numerals -/
theorem digits_rec (u : Nat) : Lib.decDigits u = if u < 10 then [UInt8.ofNat (48 + u)] else Lib.decDigits (u / 10) ++ [UInt8.ofNat (48 + u % 10)] := by
  rw [Lib.decDigits]; split <;> rfl
theorem u8_digit {d : Nat} (h : d < 10) : (UInt8.ofNat (48 + d)).toNat = 48 + d := by
  rw [UInt8.toNat_ofNat']; omega
theorem digits_mem : ∀ (u : Nat) (b : UInt8), b ∈ Lib.decDigits u → 48 ≤ b.toNat ∧ b.toNat ≤ 57 := by
  intro u
  induction u using Nat.strongRecOn with
  | _ u ih =>
    intro b hb
    rw [digits_rec] at hb
    split at hb
    next h => simp only [List.mem_singleton] at hb; subst hb; rw [u8_digit h]; omega
    next h =>
      rcases List.mem_append.1 hb with hb | hb
      · exact ih _ (Nat.div_lt_self (by omega) (by decide)) b hb
      · simp only [List.mem_singleton] at hb; subst hb; rw [u8_digit (Nat.mod_lt _ (by decide))]; omega
theorem digits_ne (u : Nat) : Lib.decDigits u ≠ [] := by
  rw [digits_rec]; split <;> simp
theorem parse_snoc : ∀ (l : List UInt8) (acc v : Nat) (c : UInt8), Lib.parseUint10 acc l = .ok v → 48 ≤ c.toNat → c.toNat ≤ 57 → v < 1844674407370955162 → v * 10 + (c.toNat - 48) < 18446744073709551616 → Lib.parseUint10 acc (l ++ [c]) = .ok (v * 10 + (c.toNat - 48))
  | [], acc, v, c, h, h1, h2, h3, h4 => by
    simp only [Lib.parseUint10] at h
    injection h with h
    subst h
    simp only [List.nil_append, Lib.parseUint10]
    rw [if_pos ⟨h1, h2⟩, if_neg (by omega), if_neg (by omega)]
  | b :: l, acc, v, c, h, h1, h2, h3, h4 => by
    simp only [List.cons_append, Lib.parseUint10] at h ⊢
    split at h
    next hb =>
      rw [if_pos hb]
      split at h
      · cases h
      next hr =>
        rw [if_neg hr]
        split at h
        · cases h
        next hr2 => rw [if_neg hr2]; exact parse_snoc l _ v c h h1 h2 h3 h4
    · cases h
theorem parse_digits : ∀ (u : Nat), u < 18446744073709551616 → Lib.parseUint10 0 (Lib.decDigits u) = .ok u := by
  intro u
  induction u using Nat.strongRecOn with
  | _ u ih =>
    intro hu
    rw [digits_rec]
    split
    next h =>
      simp only [Lib.parseUint10]
      rw [u8_digit h, if_pos (by omega), if_neg (by omega), if_neg (by omega)]
      congr 1; omega
    next h =>
      have h1 := ih (u / 10) (Nat.div_lt_self (by omega) (by decide)) (by omega)
      have hm : u % 10 < 10 := Nat.mod_lt _ (by decide)
      have := parse_snoc _ 0 (u / 10) (UInt8.ofNat (48 + u % 10)) h1 (by rw [u8_digit hm]; omega) (by rw [u8_digit hm]; omega) (by omega) (by rw [u8_digit hm]; omega)
      rw [this, u8_digit hm]
      congr 1; omega
theorem atoi_itoa {n : Int} (h1 : -1 ≤ n) (h2 : n ≤ 9223372036854775807) : Lib.atoiAll (Lib.itoa n) = .ok n := by
  by_cases h : n < 0
  · have : n = -1 := by omega
    subst this
    decide +kernel
  · unfold Lib.itoa
    rw [if_neg h]
    have hd := digits_ne n.toNat
    cases e : Lib.decDigits n.toNat with
    | nil => exact absurd e hd
    | cons c r =>
      have hc := digits_mem n.toNat c (by rw [e]; simp)
      have hp := parse_digits n.toNat (by omega)
      unfold Lib.atoiAll
      have hne : ¬ (c.toNat = 43 ∨ c.toNat = 45) := by omega
      have hn45 : ¬ c.toNat = 45 := by omega
      simp only [if_neg hne]
      have hm : Lib.parseMag (c :: r) = .ok n.toNat := by
        unfold Lib.parseMag
        rw [if_neg (by simp), ← e, hp]
      rw [hm]
      simp only [if_neg hn45]
      rw [if_neg (by omega), if_neg (by omega)]
      congr 1; omega
theorem itoa_mem {n : Int} {b : UInt8} (h : b ∈ Lib.itoa n) : b.toNat = 45 ∨ (48 ≤ b.toNat ∧ b.toNat ≤ 57) := by
  unfold Lib.itoa at h
  split at h
  · rcases List.mem_cons.1 h with rfl | h
    · left; rfl
    · right; exact digits_mem _ _ h
  · right; exact digits_mem _ _ h
/-- what is read fits -/
theorem atoi_fits {l : List UInt8} {v : Int} (h : Lib.atoiAll l = .ok v) : -9223372036854775808 ≤ v ∧ v ≤ 9223372036854775807 := by
  unfold Lib.atoiAll at h
  split at h
  · cases h
  · simp only at h
    split at h
    · cases h
    · cases h
    · split at h
      · cases h
      · split at h
        · cases h
        · injection h with h
          subst h
          split <;> omega
end Go.Proofs.YtcemhpdhcmlhlaaGreatDoor

/-
  trace: a line read. No condition.
-/
namespace Go.Proofs.YtcemhpdhcmlhlaaGreatDoor
open Go.RowKit Go.Deep Go.Shelf

/-- strconv.Atoi: a number that fits; its numeral's own, if it is one's -/
theorem atoi_h (s : ByteArray) (hs : s.size ≤ 1000000000) (w : World) (hL : Laid w) :
    Calls Tryz.prog 31 #[.string s] w fun e w' => ∃ n ev, e = .returned (.tuple #[.int .i64 n, ev]) ∧ fits64 n ∧ (∀ v, Lib.atoiAll s.data.toList = .ok v → n = v) ∧ Fr (fun _ => False) w w' := by
  cases h : Lib.atoiAll s.data.toList with
  | ok v =>
    refine (Tryz.strconv_Atoi_ok s (by omega) v h w).mono ?_
    rintro e w' ⟨rfl, hw⟩
    refine ⟨v, _, rfl, atoi_fits h, fun u hu => by injection hu, ?_⟩
    rcases hw with rfl | ⟨t, rfl⟩
    · exact Fr.refl _ _
    · exact SX.Fr.of_below (Joins.below_bytesWorld _ _ _ _ (Nat.le_refl _))
  | range =>
    obtain ⟨ev, h1, h2⟩ := hL.e2
    refine (Tryz.strconv_Atoi_range s (by omega) h ev w h1 h2).mono ?_
    rintro e w' ⟨N, rfl, _, _, hb⟩
    refine ⟨_, _, rfl, ?_, (fun u hu => by cases hu), SX.Fr.of_below hb⟩
    unfold Lib.atoiSat fits64
    split <;> omega
  | _ =>
    obtain ⟨ev, h1, h2⟩ := hL.e1
    refine (Tryz.strconv_Atoi_syntax s (by omega) h ev w h1 h2).mono ?_
    rintro e w' ⟨N, rfl, _, _, hb⟩
    exact ⟨0, _, rfl, ⟨by decide, by decide⟩, (fun u hu => by cases hu), SX.Fr.of_below hb⟩

/-- a line without its end -/
def bare (s : List UInt8) : List UInt8 := Lib.trimSuffix s [10]
/-- what reading a line gives -/
structure ReadIs (s : List UInt8) (x : Ev) (ok : Bool) : Prop where
  wf : x.wf
  is : ok = true → x.right = true ∧ x.line = s
  all : ∀ y : Ev, y.right = true → y.line = s → ok = true ∧ x = y

/-- the parts of a line -/
def parts (s : List UInt8) : List ByteArray := Lib.splitB ⟨[32].toArray⟩ 0 (Lib.countB ⟨(bare s).toArray⟩ ⟨[32].toArray⟩) ⟨(bare s).toArray⟩
theorem parts_data (s : List UInt8) : (parts s).map (fun p => p.data.toList) = cutS 32 (bare s) := by
  unfold parts
  rw [Lib.splitB_data]
  have := split_cut 32 _ (bare s) (Nat.le_refl _)
  unfold Lib.split at this
  exact this
theorem parts_len (s : List UInt8) : (parts s).length = Lib.countB ⟨(bare s).toArray⟩ ⟨[32].toArray⟩ + 1 := Lib.splitB_all _ (by decide) 0 _ _ rfl

/-- memory while a line is read -/
structure RS (w0 : World) (rb lb xb : Nat) (a b c d : ByteArray) (t u v : Int) (W : World) : Prop where
  fr : Fr (fun _ => False) w0 W
  l : W.heap[lb]? = some (.cells #[.string a, .string b, .string c, .string d] 9 (0, 0))
  x : W.heap[xb]? = some (.cells #[.int .i64 t, .int .i64 u, .string c, .int .i64 v] 24 (0, 0))
  r : W.heap[rb]? = some (.cells #[.int .i64 0, .int .i64 0, .string ⟨#[]⟩, .int .i64 0] 24 (0, 0))
  h0 : w0.heap.size ≤ xb
  h1 : lb ≠ xb
  h2 : rb ≠ xb
theorem RS.next {w0 W W' : World} {rb lb xb : Nat} {a b c d : ByteArray} {t u v : Int} (h : RS w0 rb lb xb a b c d t u v W) (hf : Fr (fun _ => False) W W') : RS w0 rb lb xb a b c d t u v W' :=
  ⟨h.fr.trans hf (fun _ _ x => x), hf.at h.l (fun x => x), hf.at h.x (fun x => x), hf.at h.r (fun x => x), h.h0, h.h1, h.h2⟩
theorem RS.set {w0 W : World} {rb lb xb : Nat} {a b c d : ByteArray} {t u v : Int} (h : RS w0 rb lb xb a b c d t u v W) (k : Nat) (n : Int) (hk : k = 0 ∨ k = 1 ∨ k = 3) :
    RS w0 rb lb xb a b c d (if k = 0 then n else t) (if k = 1 then n else u) (if k = 3 then n else v) (W.setCell ⟨xb, k, none⟩ (.int .i64 n)) := by
  refine ⟨h.fr.setCell _ _ (.inr h.h0), ?_, ?_, ?_, h.h0, h.h1, h.h2⟩
  · rw [heap_setCell_ne h.h1]; exact h.l
  · rw [heap_setCell_at h.x]
    rcases hk with rfl | rfl | rfl <;> rfl
  · rw [heap_setCell_ne h.h2]; exact h.r
/-- what is read of it -/
def RC (_ lb xb : Nat) (a b c d : ByteArray) (t u v : Int) (W : World) : Prop :=
  (W.cell? ⟨lb, 0, none⟩ = some (.string a) ∧ W.cell? ⟨lb, 1, none⟩ = some (.string b) ∧ W.cell? ⟨lb, 2, none⟩ = some (.string c) ∧ W.cell? ⟨lb, 3, none⟩ = some (.string d)) ∧
  (W.cell? ⟨xb, 0, none⟩ = some (.int .i64 t) ∧ W.cell? ⟨xb, 1, none⟩ = some (.int .i64 u) ∧ W.cell? ⟨xb, 2, none⟩ = some (.string c) ∧ W.cell? ⟨xb, 3, none⟩ = some (.int .i64 v)) ∧
  (W.frozen? ⟨xb, 0, none⟩ = false ∧ W.frozen? ⟨xb, 1, none⟩ = false ∧ W.frozen? ⟨xb, 3, none⟩ = false)
theorem RS.rc {w0 W : World} {rb lb xb : Nat} {a b c d : ByteArray} {t u v : Int} (h : RS w0 rb lb xb a b c d t u v W) : RC rb lb xb a b c d t u v W :=
  ⟨⟨cell_blk h.l 0, cell_blk h.l 1, cell_blk h.l 2, cell_blk h.l 3⟩, ⟨cell_blk h.x 0, cell_blk h.x 1, cell_blk h.x 2, cell_blk h.x 3⟩, free_blk h.x 0, free_blk h.x 1, free_blk h.x 3⟩

theorem keep4 (W : World) (n : Nat) (a0 a1 a2 a3 : Value) (i : Nat) : ((((W.setCell ⟨n, 0, none⟩ a0).setCell ⟨n, 1, none⟩ a1).setCell ⟨n, 2, none⟩ a2).setCell ⟨n, 3, none⟩ a3).cell? ⟨n + 1 + 1, i, none⟩ = W.cell? ⟨n + 1 + 1, i, none⟩ := by
  unfold World.cell?
  rw [heap_setCell_ne (by show n + 1 + 1 ≠ n; omega), heap_setCell_ne (by show n + 1 + 1 ≠ n; omega), heap_setCell_ne (by show n + 1 + 1 ≠ n; omega), heap_setCell_ne (by show n + 1 + 1 ≠ n; omega)]
/-- the result's block behind the last step -/
theorem put4 {W : World} {n : Nat} {v0 v1 v2 v3 : Value} {t : TypeId} (h : W.heap[n]? = some (.cells #[v0, v1, v2, v3] t (0, 0))) (a0 a1 a2 a3 : Value) :
    ((((W.setCell ⟨n, 0, none⟩ a0).setCell ⟨n, 1, none⟩ a1).setCell ⟨n, 2, none⟩ a2).setCell ⟨n, 3, none⟩ a3).heap[n]? = some (.cells #[a0, a1, a2, a3] t (0, 0)) := by
  rw [heap_setCell_at (heap_setCell_at (heap_setCell_at (heap_setCell_at h)))]
  rfl
theorem fr4 {w0 W : World} (h : Fr (fun _ => False) w0 W) {n : Nat} (hn : w0.heap.size ≤ n) (a0 a1 a2 a3 : Value) : Fr (fun _ => False) w0 ((((W.setCell ⟨n, 0, none⟩ a0).setCell ⟨n, 1, none⟩ a1).setCell ⟨n, 2, none⟩ a2).setCell ⟨n, 3, none⟩ a3) :=
  (((h.setCell _ _ (.inr hn)).setCell _ _ (.inr hn)).setCell _ _ (.inr hn)).setCell _ _ (.inr hn)
theorem ret_cell {P : Program} {fn : Func} {p u : Tmp} (hres : fn.results = #[.cell p 24, .tmp u]) (hP : P = Tryz.prog) {tmps : Array Value} {W : World} {n : Nat} {a0 a1 a2 a3 : Value} (h : W.heap[n]? = some (.cells #[a0, a1, a2, a3] 24 (0, 0))) (hp : tmps.getD p undef = .pointer (some ⟨n, 0, none⟩)) :
    (results fn tmps).run P W = .ok (.tuple #[.agg #[a0, a1, a2, a3], tmps.getD u undef]) W := by
  subst hP
  rw [results_cell_tmp hres, hp]
  simp only [asAddr, Sem.run_pure, Result.andThen]
  rw [run_loadVar_row W n _ 24 _ _ _ h Tryz.underlying24 rfl (by kernel_rfl)]
/-- what the last step reads -/
def RD (n : Nat) (X : Ev) (W : World) : Prop :=
  (W.cell? ⟨n + 1 + 1, 0, none⟩ = some (.int .i64 X.task) ∧ W.cell? ⟨n + 1 + 1, 1, none⟩ = some (.int .i64 X.ask) ∧ W.cell? ⟨n + 1 + 1, 2, none⟩ = some (str X.stage) ∧ W.cell? ⟨n + 1 + 1, 3, none⟩ = some (.int .i64 X.span)) ∧
  (W.cell? ⟨n, 0, none⟩ = some (.int .i64 0) ∧ W.cell? ⟨n, 1, none⟩ = some (.int .i64 0) ∧ W.cell? ⟨n, 2, none⟩ = some (.string ⟨#[]⟩) ∧ W.cell? ⟨n, 3, none⟩ = some (.int .i64 0)) ∧
  (W.frozen? ⟨n, 0, none⟩ = false ∧ W.frozen? ⟨n, 1, none⟩ = false ∧ W.frozen? ⟨n, 2, none⟩ = false ∧ W.frozen? ⟨n, 3, none⟩ = false)
theorem rd_of {w0 W : World} {n : Nat} {a b d : ByteArray} {cl : List UInt8} {t u v : Int} {X : Ev} (h : RS w0 n (n + 1) (n + 2) a b ⟨⟨cl⟩⟩ d t u v W) (hX : X = ⟨t, u, cl, v⟩) : RD n X W := by
  subst hX
  exact ⟨⟨cell_blk h.x 0, cell_blk h.x 1, cell_blk h.x 2, cell_blk h.x 3⟩, ⟨cell_blk h.r 0, cell_blk h.r 1, cell_blk h.r 2, cell_blk h.r 3⟩, free_blk h.r 0, free_blk h.r 1, free_blk h.r 2, free_blk h.r 3⟩

set_option maxHeartbeats 4000000 in
set_option maxRecDepth 100000 in
theorem read_four (s : List UInt8) (hs : s.length ≤ 1000000000) (w : World) (m : Nat) (hm : AllS w m) (hL : Laid w) (a b c d : ByteArray) (hp : parts s = [a, b, c, d]) (hsz : a.size ≤ 1000000000 ∧ b.size ≤ 1000000000 ∧ c.size ≤ 1000000000 ∧ d.size ≤ 1000000000) :
    Calls Tryz.prog 19 #[str s, .map (some m)] w fun e w' => ∃ t u v, e = .returned (.tuple #[(⟨t, u, c.data.toList, v⟩ : Ev).val, .bool ((⟨t, u, c.data.toList, v⟩ : Ev).right && ((⟨t, u, c.data.toList, v⟩ : Ev).line == s))]) ∧
      (fits64 t ∧ fits64 u ∧ fits64 v) ∧ ((∀ n, Lib.atoiAll a.data.toList = .ok n → t = n) ∧ (∀ n, Lib.atoiAll b.data.toList = .ok n → u = n) ∧ (∀ n, Lib.atoiAll d.data.toList = .ok n → v = n)) ∧ Fr (fun _ => False) w w' := by
  have hlen := parts_len s
  rw [hp] at hlen
  obtain ⟨⟨cl⟩⟩ := c
  have HT := Lib.hid (fun (W : World) => Tryz.strings_TrimSuffix ⟨s.toArray⟩ ⟨[10].toArray⟩ W (by rw [size_mk]; omega))
  have hbs : (bare s).length ≤ s.length := by
    unfold bare Lib.trimSuffix
    split <;> simp
  have HS : Hid (∀ W, Fr (fun _ => False) w W → Calls Tryz.prog 29 #[.string ⟨(bare s).toArray⟩, .string ⟨[32].toArray⟩] W fun e w' =>
      e = .returned (.slice (some ⟨W.heap.size, 0, none⟩) 4 4) ∧ w' = W.alloc (.cells #[.string a, .string b, .string ⟨⟨cl⟩⟩, .string d] 9)) := Lib.hid fun W hW => by
    obtain ⟨mm, h⟩ := (hL.fr hW).ml
    have h1 := Tryz.strings_Split ⟨(bare s).toArray⟩ ⟨[32].toArray⟩ mm W (by rw [size_mk]; omega) h (by decide)
    rw [show Lib.splitB ⟨[32].toArray⟩ 0 (Lib.countB ⟨(bare s).toArray⟩ ⟨[32].toArray⟩) ⟨(bare s).toArray⟩ = [a, b, ⟨⟨cl⟩⟩, d] from hp, ← hlen] at h1
    exact h1
  have F0 := Lib.hid (Fr.refl (fun _ => False) w)
  have HA : Hid (∀ (p : ByteArray), p.size ≤ 1000000000 → ∀ (t u v : Int) (W : World), RS w w.heap.size (w.heap.size + 1) (w.heap.size + 2) a b ⟨⟨cl⟩⟩ d t u v W → Calls Tryz.prog 31 #[.string p] W fun e w' => ∃ n ev, e = .returned (.tuple #[.int .i64 n, ev]) ∧ Hid (fits64 n ∧ ∀ v, Lib.atoiAll p.data.toList = .ok v → n = v) ∧ Hid (RS w w.heap.size (w.heap.size + 1) (w.heap.size + 2) a b ⟨⟨cl⟩⟩ d t u v w') ∧ RC w.heap.size (w.heap.size + 1) (w.heap.size + 2) a b ⟨⟨cl⟩⟩ d t u v w') :=
    Lib.hid fun p hps t u v W h => (atoi_h p hps W (hL.fr h.fr)).mono (by
      rintro e w' ⟨n, ev, h1, h2, h3, h4⟩
      exact ⟨n, ev, h1, Lib.hid ⟨h2, h3⟩, Lib.hid (h.next h4), (h.next h4).rc⟩)
  have R0 : Hid (RS w w.heap.size (w.heap.size + 1) (w.heap.size + 2) a b ⟨⟨cl⟩⟩ d 0 0 0 (((w.alloc (.cells #[.int .i64 0, .int .i64 0, .string ⟨#[]⟩, .int .i64 0] 24)).alloc (.cells #[.string a, .string b, .string ⟨⟨cl⟩⟩, .string d] 9)).alloc (.cells #[.int .i64 0, .int .i64 0, .string ⟨⟨cl⟩⟩, .int .i64 0] 24))) :=
    Lib.hid ⟨(((Fr.refl _ w).alloc _).alloc _).alloc _, by rw [heap_alloc, if_neg (by simp only [size_alloc]; omega), heap_alloc, if_pos (by simp only [size_alloc])], by rw [heap_alloc, if_pos (by simp only [size_alloc])], by rw [heap_alloc, if_neg (by simp only [size_alloc]; omega), heap_alloc, if_neg (by simp only [size_alloc]; omega), heap_alloc, if_pos rfl], by omega, by omega, by omega⟩
  have HL := Lib.hid hL
  have HM := Lib.hid hm
  have Z1 := hsz.1
  have Z2 := hsz.2.1
  have Z4 := hsz.2.2.2
  have Z3 := hsz.2.2.1
  clear hL hm hlen hp hsz
  go_enter Tryz.func19, Tryz.ntmps19
  go_wp2_with (first
    | (go_at_call 30; refine (HT.out _).mono ?_; rintro e w1 ⟨rfl, rfl⟩)
    | (go_at_call 29; refine (HS.out _ (F0.out.alloc _)).mono ?_; rintro e w2 ⟨rfl, rfl⟩)
    | (go_at_call 31; first
        | (refine (HA.out d Z4 _ _ _ _ (R2.out.set 1 n2 (.inr (.inl rfl)))).mono ?_; rintro e w5 ⟨n3, ev3, rfl, N3, R3, ⟨l0, l1, l2, l3⟩, ⟨x0, x1, x2, x3⟩, f0, f1, f3⟩)
        | (refine (HA.out b Z2 _ _ _ _ (R1.out.set 0 n1 (.inl rfl))).mono ?_; rintro e w4 ⟨n2, ev2, rfl, N2, R2, ⟨l0, l1, l2, l3⟩, ⟨x0, x1, x2, x3⟩, f0, f1, f3⟩)
        | (refine (HA.out a Z1 _ _ _ _ R0.out).mono ?_; rintro e w3 ⟨n1, ev1, rfl, N1, R1, ⟨l0, l1, l2, l3⟩, ⟨x0, x1, x2, x3⟩, f0, f1, f3⟩)))
  obtain ⟨X, hX⟩ : ∃ X : Ev, X = ⟨n1, n2, cl, n3⟩ := ⟨_, rfl⟩
  have R4 : RS w w.heap.size (w.heap.size + 1) (w.heap.size + 2) a b ⟨⟨cl⟩⟩ d n1 n2 n3 _ := R3.out.set 3 n3 (.inr (.inr rfl))
  have hwf : X.wf := by rw [hX]; exact ⟨N1.out.1, N2.out.1, N3.out.1⟩
  have hxl : X.stage.length ≤ 1000000000000000 := by rw [hX]; simp only; have := Z3; simp [ByteArray.size] at this; omega
  obtain ⟨W6, hW6⟩ : ∃ W6, W6 = w5.setCell ⟨w.heap.size + 1 + 1, 3, none⟩ (.int .i64 n3) := ⟨_, rfl⟩
  rw [← hW6]
  replace R4 : RS w w.heap.size (w.heap.size + 1) (w.heap.size + 2) a b ⟨⟨cl⟩⟩ d n1 n2 n3 W6 := by rw [hW6]; exact R4
  have hE : ∀ W, Fr (fun _ => False) W6 W → RD w.heap.size X W := fun W hW => rd_of (R4.next hW) hX
  have HR := Lib.hid (fun (W : World) (hW : Fr (fun _ => False) W6 W) => ((right_h X hwf W m ((HM.out.fr R4.fr (fun x => x)).fr hW (fun x => x))).mono (by
    rintro e w' ⟨h1, h2⟩
    exact ⟨h1, Lib.hid (hW.trans h2 (fun _ _ x => x)), hE _ (hW.trans h2 (fun _ _ x => x))⟩) : Calls Tryz.prog 12 #[X.val, .map (some m)] W fun e w' => e = .returned (.bool X.right) ∧ Hid (Fr (fun _ => False) W6 w') ∧ RD w.heap.size X w'))
  have HN := Lib.hid (fun (W : World) (hW : Fr (fun _ => False) W6 W) => ((line_h X hwf hxl W (HL.out.fr (R4.fr.trans hW (fun _ _ x => x)))).mono (by
    rintro e w' ⟨h1, h2⟩
    exact ⟨h1, Lib.hid (hW.trans h2 (fun _ _ x => x)), hE _ (hW.trans h2 (fun _ _ x => x))⟩) : Calls Tryz.prog 14 #[X.val] W fun e w' => e = .returned (str X.line) ∧ Hid (Fr (fun _ => False) W6 w') ∧ RD w.heap.size X w'))
  obtain ⟨⟨y0, y1, y2, y3⟩, ⟨r0, r1, r2, r3⟩, g0, g1, g2, g3⟩ := hE W6.drew (Fr.refl _ W6).drew
  have FD := Lib.hid ((Fr.refl (fun _ => False) W6).drew)
  replace R4 := Lib.hid R4
  have hX' := Lib.hid hX
  unfold Ev.val at HR HN
  clear hW6 hE hX x0 x1 x2 x3 l0 l1 l2 l3 f0 f1 f3
  have sq : ((⟨X.line.toArray⟩ : ByteArray) == ⟨s.toArray⟩) = (X.line == s) := by
    have := SX.bytesBeq X.line s
    unfold SX.bytesOf at this
    rw [this, Bool.eq_iff_iff]
    simp
  cases hr : X.right with
  | true =>
    rw [hr] at HR
    go_region_held3 (fun w' => w'.cell? ⟨w.heap.size + 1 + 1, 0, none⟩ = some (.int .i64 X.task) ∧ w'.cell? ⟨w.heap.size + 1 + 1, 1, none⟩ = some (.int .i64 X.ask) ∧ w'.cell? ⟨w.heap.size + 1 + 1, 2, none⟩ = some (str X.stage) ∧ w'.cell? ⟨w.heap.size + 1 + 1, 3, none⟩ = some (.int .i64 X.span)) (first | go_keep | (refine ⟨?_, ?_, ?_, ?_⟩ <;> (rw [keep4]; assumption))) ((first
      | (go_at_call 12; refine (HR.out _ FD.out).mono ?_; rintro e w7 ⟨rfl, F7, ⟨y0, y1, y2, y3⟩, ⟨r0, r1, r2, r3⟩, g0, g1, g2, g3⟩)
      | (go_at_call 14; refine (HN.out _ F7.out).mono ?_; rintro e w8 ⟨rfl, F8, ⟨y0, y1, y2, y3⟩, ⟨r0, r1, r2, r3⟩, g0, g1, g2, g3⟩)))
    all_goals go_wp2
    all_goals
      refine bodyPost_ret (ret_cell rfl rfl (put4 (R4.out.next F8.out).r _ _ _ _) rfl) rfl ?_
      refine ⟨n1, n2, n3, congrArg (fun v => Ending.returned v) ?_, ⟨N1.out.1, N2.out.1, N3.out.1⟩, ⟨N1.out.2, N2.out.2, N3.out.2⟩, fr4 ((R4.out.fr).trans F8.out (fun _ _ x => x)) (Nat.le_refl _) _ _ _ _⟩
      rw [← hX'.out, hr, Bool.true_and]
      rfl
  | false =>
    rw [hr] at HR
    have HM' : AllS W6 m := HM.out.fr R4.out.fr (fun x => x)
    have hml : m < w.heap.size := by obtain ⟨_, h, _⟩ := HM.out; exact h.lt
    have hx5 := hX'.out
    subst hx5
    refine SX.rd_h HM' (by omega) (by omega) hwf hr R4.out.r R4.out.x (by omega) rfl rfl rfl rfl rfl rfl ?_
    intro A' w' hd' t2 t3 hb' hfr'
    refine (show ∀ (a : Act) (w : World), Code.wp Tryz.prog Code.ret _ a w → _ from by assumption) _ _ ?_
    refine wp_ret ?_
    refine bodyPost_ret (ret_cell rfl rfl hb' (by simpa using t2)) hd' ?_
    refine ⟨n1, n2, n3, congrArg (fun v => Ending.returned v) ?_, ⟨N1.out.1, N2.out.1, N3.out.1⟩, ⟨N1.out.2, N2.out.2, N3.out.2⟩, R4.out.fr.trans hfr' (fun b hb x => ?_)⟩
    · have t3' : A'.tmps.getD 5 undef = .bool false := by simpa using t3
      rw [t3', hr, Bool.false_and]
      rfl
    · rcases x with x | x <;> omega
end Go.Proofs.YtcemhpdhcmlhlaaGreatDoor

/-
  trace: a line read, in all cases. No condition.
-/
namespace Go.Proofs.YtcemhpdhcmlhlaaGreatDoor
open Go.RowKit Go.Deep Go.Shelf

theorem cutS_le {c : UInt8} : ∀ {l p : List UInt8}, p ∈ cutS c l → p.length ≤ l.length
  | [], p, h => by simp only [cutS, List.mem_singleton] at h; subst h; exact Nat.le_refl _
  | b :: l, p, h => by
    simp only [cutS] at h
    split at h
    · rcases List.mem_cons.1 h with rfl | h
      · simp
      · have := cutS_le h; simp; omega
    · split at h
      next e => exact absurd e (cutS_ne c l)
      next q qs e =>
        rcases List.mem_cons.1 h with rfl | h
        · have := cutS_le (c := c) (l := l) (p := q) (by rw [e]; simp); simp; omega
        · have := cutS_le (c := c) (l := l) (p := p) (by rw [e]; simp [h]); simp; omega
theorem trim_end (l : List UInt8) : bare (l ++ [10]) = l := by
  unfold bare Lib.trimSuffix
  have : Lib.hasSuffix (l ++ [10]) [10] = true := by
    simp [Lib.hasSuffix]
  rw [this]
  simp
theorem no32_itoa {n : Int} : (32 : UInt8) ∉ Lib.itoa n := fun h => by
  have := itoa_mem h
  have e : (32 : UInt8).toNat = 32 := rfl
  omega
theorem no10_itoa {n : Int} : (10 : UInt8) ∉ Lib.itoa n := fun h => by
  have := itoa_mem h
  have e : (10 : UInt8).toNat = 10 := rfl
  omega
theorem known_mem {s : List UInt8} (h : known s = true) : s ∈ stagesL := by
  unfold known at h; exact List.contains_iff_mem.1 h
theorem no_stage {s : List UInt8} (h : known s = true) : (32 : UInt8) ∉ s ∧ (10 : UInt8) ∉ s := by
  have h1 := known_mem h
  have h0 : stagesL.all (fun s => !s.contains 32 && !s.contains 10) = true := by decide
  have := List.all_eq_true.1 h0 s h1
  simpa using this
structure RightIs (y : Ev) : Prop where
  task : 0 ≤ y.task ∧ y.task ≤ 2147483647
  ask : -1 ≤ y.ask ∧ y.ask ≤ 2147483647
  span : 0 ≤ y.span ∧ y.span ≤ 2147483647
  stage : known y.stage = true
theorem right_is {y : Ev} (h : y.right = true) : RightIs y := by
  unfold Ev.right at h
  simp only [Bool.and_eq_true, decide_eq_true_eq] at h
  obtain ⟨h1, h2, h3, h4, h5⟩ := h
  exact ⟨⟨h1, by omega⟩, ⟨h2, by omega⟩, ⟨h3, by omega⟩, h5⟩
theorem RightIs.wf {y : Ev} (h : RightIs y) : y.wf := ⟨⟨by have := h.task; omega, by have := h.task; omega⟩, ⟨by have := h.ask; omega, by have := h.ask; omega⟩, ⟨by have := h.span; omega, by have := h.span; omega⟩⟩
/-- a right event's line, cut -/
theorem line_cut {y : Ev} (h : RightIs y) : cutS 32 (bare y.line) = [Lib.itoa y.task, Lib.itoa y.ask, y.stage, Lib.itoa y.span] := by
  have e : y.line = (Lib.itoa y.task ++ 32 :: (Lib.itoa y.ask ++ 32 :: (y.stage ++ 32 :: Lib.itoa y.span))) ++ [10] := by
    unfold Ev.line; simp
  rw [e, trim_end, cutS_app _ no32_itoa, cutS_app _ no32_itoa, cutS_app _ (no_stage h.stage).1, cutS_none no32_itoa]

set_option maxHeartbeats 2000000 in
set_option maxRecDepth 100000 in
theorem read_no (s : List UInt8) (hs : s.length ≤ 1000000000) (w : World) (m : Nat) (hL : Laid w) (hp : (parts s).length ≠ 4) :
    Calls Tryz.prog 19 #[str s, .map (some m)] w fun e w' => e = .returned (.tuple #[(⟨0, 0, [], 0⟩ : Ev).val, .bool false]) ∧ Fr (fun _ => False) w w' := by
  have HT := Lib.hid (fun (W : World) => Tryz.strings_TrimSuffix ⟨s.toArray⟩ ⟨[10].toArray⟩ W (by rw [size_mk]; omega))
  have hbs : (bare s).length ≤ s.length := by
    unfold bare Lib.trimSuffix
    split <;> simp
  obtain ⟨k, hk⟩ : ∃ k, k = Lib.countB ⟨(bare s).toArray⟩ ⟨[32].toArray⟩ := ⟨_, rfl⟩
  have hlen := parts_len s
  rw [← hk] at hlen
  have hk4 : ((k : Int) + 1 = 4) = False := by
    rw [eq_iff_iff, iff_false]; omega
  have hk5 : ((k : Int) + 1 != 4) = true := by
    rw [bne_iff_ne]; omega
  obtain ⟨cs, hcs⟩ : ∃ cs, cs = ((parts s).map Value.string).toArray := ⟨_, rfl⟩
  have HS : Hid (∀ W, Fr (fun _ => False) w W → Calls Tryz.prog 29 #[.string ⟨(bare s).toArray⟩, .string ⟨[32].toArray⟩] W fun e w' =>
      e = .returned (.slice (some ⟨W.heap.size, 0, none⟩) (k + 1) (k + 1)) ∧ w' = W.alloc (.cells cs 9)) := Lib.hid fun W hW => by
    obtain ⟨mm, h⟩ := (hL.fr hW).ml
    have h1 := Tryz.strings_Split ⟨(bare s).toArray⟩ ⟨[32].toArray⟩ mm W (by rw [size_mk]; omega) h (by decide)
    rw [← hk] at h1
    rw [hcs]
    unfold parts
    rw [← hk]
    exact h1
  have F0 := Lib.hid (Fr.refl (fun _ => False) w)
  have hblk : ((w.alloc (.cells #[.int .i64 0, .int .i64 0, .string ⟨#[]⟩, .int .i64 0] 24)).alloc (.cells cs 9)).heap[w.heap.size]? = some (.cells #[.int .i64 0, .int .i64 0, .string ⟨#[]⟩, .int .i64 0] 24 (0, 0)) := by
    rw [heap_alloc, if_neg (by simp only [size_alloc]; omega), heap_alloc, if_pos rfl]
  have q0 := free_blk hblk 0
  have q1 := free_blk hblk 1
  have q2 := free_blk hblk 2
  have q3 := free_blk hblk 3
  replace hblk := Lib.hid hblk
  clear hL hlen hp hk hcs
  go_enter Tryz.func19, Tryz.ntmps19
  go_wp2_with (first
    | (go_at_call 30; refine (HT.out _).mono ?_; rintro e w1 ⟨rfl, rfl⟩)
    | (go_at_call 29; refine (HS.out _ (F0.out.alloc _)).mono ?_; rintro e w2 ⟨rfl, rfl⟩))
  refine bodyPost_ret (ret_cell rfl rfl hblk.out rfl) rfl ?_
  exact ⟨rfl, ((Fr.refl _ w).alloc _).alloc _⟩

theorem read_h (s : List UInt8) (hs : s.length ≤ 1000000000) (w : World) (m : Nat) (hm : AllS w m) (hL : Laid w) :
    Calls Tryz.prog 19 #[str s, .map (some m)] w fun e w' => ∃ x ok, e = .returned (.tuple #[x.val, .bool ok]) ∧ ReadIs s x ok ∧ Fr (fun _ => False) w w' := by
  have hd := parts_data s
  by_cases h4 : (parts s).length = 4
  · obtain ⟨a, b, c, d, hp⟩ : ∃ a b c d, parts s = [a, b, c, d] := by
      match h : parts s, h4 with
      | [a, b, c, d], _ => exact ⟨a, b, c, d, rfl⟩
    rw [hp] at hd
    simp only [List.map_cons, List.map_nil] at hd
    have hbs : (bare s).length ≤ s.length := by
      unfold bare Lib.trimSuffix
      split
      · rw [List.length_take]; omega
      · exact Nat.le_refl _
    have sz : ∀ p : ByteArray, p.data.toList ∈ cutS 32 (bare s) → p.size ≤ 1000000000 := by
      intro p hp
      have := cutS_le hp
      have e : p.size = p.data.toList.length := (Array.length_toList (xs := p.data)).symm
      omega
    refine (read_four s hs w m hm hL a b c d hp ⟨sz a (by rw [← hd]; simp), sz b (by rw [← hd]; simp), sz c (by rw [← hd]; simp), sz d (by rw [← hd]; simp)⟩).mono ?_
    rintro e w' ⟨t, u, v, rfl, ⟨f1, f2, f3⟩, ⟨g1, g2, g3⟩, hf⟩
    refine ⟨_, _, rfl, ⟨⟨f1, f2, f3⟩, ?_, ?_⟩, hf⟩
    · intro hok
      simp only [Bool.and_eq_true, beq_iff_eq] at hok
      exact hok
    · intro y hy hl
      have hr := right_is hy
      have hc := line_cut hr
      rw [hl, ← hd] at hc
      simp only [List.cons.injEq, and_true] at hc
      obtain ⟨e1, e2, e3, e4⟩ := hc
      have k1 : t = y.task := g1 _ (by rw [e1]; exact atoi_itoa (by have := hr.task; omega) (by have := hr.task; omega))
      have k2 : u = y.ask := g2 _ (by rw [e2]; exact atoi_itoa (by have := hr.ask; omega) (by have := hr.ask; omega))
      have k3 : v = y.span := g3 _ (by rw [e4]; exact atoi_itoa (by have := hr.span; omega) (by have := hr.span; omega))
      have hx : (⟨t, u, c.data.toList, v⟩ : Ev) = y := by rw [k1, k2, k3, e3]
      rw [hx]
      exact ⟨by rw [hy, hl]; simp, rfl⟩
  · refine (read_no s hs w m hL h4).mono ?_
    rintro e w' ⟨rfl, hf⟩
    refine ⟨_, _, rfl, ⟨⟨⟨by decide, by decide⟩, ⟨by decide, by decide⟩, ⟨by decide, by decide⟩⟩, (fun h => by cases h), ?_⟩, hf⟩
    intro y hy hl
    exfalso
    have hc := line_cut (right_is hy)
    rw [hl, ← hd] at hc
    have := congrArg List.length hc
    rw [List.length_map] at this
    exact h4 this
end Go.Proofs.YtcemhpdhcmlhlaaGreatDoor

/-
  Plain facts: a numeral as the reference reads it; a line's parts. No program in sight.
-/
namespace Go.Proofs.YtcemhpdhcmlhlaaGreatDoor
/-! a numeral, as the reference reads it -/
def isDig (b : UInt8) : Prop := 48 ≤ b.toNat ∧ b.toNat ≤ 57
instance (b : UInt8) : Decidable (isDig b) := inferInstanceAs (Decidable (_ ∧ _))
def numVal (l : List UInt8) : Nat := l.foldl (fun n b => 10 * n + (b.toNat - 48)) 0
theorem numVal_snoc (l : List UInt8) (b : UInt8) : numVal (l ++ [b]) = 10 * numVal l + (b.toNat - 48) := by
  simp [numVal]
theorem numVal_digits : ∀ u : Nat, numVal (Lib.decDigits u) = u := by
  intro u
  induction u using Nat.strongRecOn with
  | _ u ih =>
    rw [digits_rec]
    split
    next h => simp only [numVal, List.foldl_cons, List.foldl_nil]; rw [u8_digit h]; omega
    next h => rw [numVal_snoc, ih _ (Nat.div_lt_self (by omega) (by decide)), u8_digit (Nat.mod_lt _ (by decide))]; omega
/-- no nought ahead, not empty -/
def leanN (l : List UInt8) : Prop := l ≠ [] ∧ (l.head? = some 48 → l.length = 1)
theorem dig_of {b : UInt8} (h : isDig b) : b = UInt8.ofNat (48 + (b.toNat - 48)) := by
  apply UInt8.toNat_inj.1
  rw [u8_digit (by have := h.2; omega)]; have := h.1; omega
theorem snoc_ind {α : Type} {p : List α → Prop} (h0 : p []) (h1 : ∀ l x, p l → p (l ++ [x])) (l : List α) : p l := by
  have : ∀ l : List α, p l.reverse := by
    intro l
    induction l with
    | nil => exact h0
    | cons x l ih => rw [List.reverse_cons]; exact h1 _ _ ih
  have h := this l.reverse
  rwa [List.reverse_reverse] at h
theorem digits_of (l : List UInt8) : (∀ b ∈ l, isDig b) → leanN l → Lib.decDigits (numVal l) = l ∧ (l ≠ [48] → 1 ≤ numVal l) := by
  induction l using snoc_ind with
  | h0 => intro _ h; exact absurd rfl h.1
  | h1 l x ih =>
    intro hd hl
    have hx := hd x (by simp)
    rw [numVal_snoc]
    by_cases e : l = []
    · subst e
      have hb := hx
      unfold isDig at hb
      simp only [numVal, List.foldl_nil, List.nil_append, Nat.mul_zero, Nat.zero_add]
      rw [digits_rec, if_pos (by omega), ← dig_of hx]
      refine ⟨rfl, fun hn => ?_⟩
      have : x ≠ 48 := fun e => hn (by rw [e])
      have : x.toNat ≠ 48 := fun e => this (UInt8.toNat_inj.1 e)
      omega
    · have hl' : leanN l := by
        refine ⟨e, fun h0 => ?_⟩
        have := hl.2 (by rw [List.head?_append, h0]; rfl)
        simp only [List.length_append, List.length_singleton] at this
        have := List.length_pos_iff.2 e
        omega
      obtain ⟨h1, h2⟩ := ih (fun b hb => hd b (by simp [hb])) hl'
      have h3 := h2 (by
        rintro rfl
        have := hl.2 rfl
        simp at this)
      have hb := hx
      unfold isDig at hb
      rw [digits_rec, if_neg (by omega), show (10 * numVal l + (x.toNat - 48)) / 10 = numVal l from by omega, h1, show (10 * numVal l + (x.toNat - 48)) % 10 = x.toNat - 48 from by omega, ← dig_of hx]
      exact ⟨rfl, fun _ => by omega⟩
/-- what the reference reads of a numeral -/
def numR (t : List UInt8) : Int :=
  if t = [45, 49] then -1 else if t = [] ∨ 10 < t.length ∨ (t.head? = some 48 ∧ 1 < t.length) then -2
  else if ∀ b ∈ t, isDig b then (if numVal t > 2147483647 then -2 else numVal t) else -2
theorem itoa_nat (u : Nat) : Lib.itoa (u : Int) = Lib.decDigits u := by
  unfold Lib.itoa; rw [if_neg (by omega), Int.toNat_natCast]
theorem itoa_m1 : Lib.itoa (-1) = [45, 49] := by decide +kernel
theorem numR_is {t : List UInt8} {n : Int} (h : numR t = n) (hn : -1 ≤ n) : t = Lib.itoa n ∧ n ≤ 2147483647 := by
  unfold numR at h
  split at h
  next e => subst h; rw [itoa_m1]; exact ⟨e, by decide⟩
  · split at h
    · omega
    next h1 =>
      split at h
      next hd =>
        split at h
        · omega
        next hv =>
          subst h
          rw [itoa_nat]
          have hlean : leanN t := ⟨fun e => h1 (.inl e), fun h0 => by
            rcases Nat.lt_or_ge 1 t.length with h2 | h2
            · exact absurd (.inr (.inr ⟨h0, h2⟩)) h1
            · cases t with
              | nil => exact absurd (.inl rfl) h1
              | cons a t => simp at h2 ⊢; omega⟩
          exact ⟨(digits_of t hd hlean).1.symm, by omega⟩
      · omega
theorem digits_lean (u : Nat) : leanN (Lib.decDigits u) := by
  induction u using Nat.strongRecOn with
  | _ u ih =>
    refine ⟨digits_ne u, ?_⟩
    rw [digits_rec]
    split
    · intro _; rfl
    next h =>
      intro h0
      exfalso
      have h1 := ih (u / 10) (Nat.div_lt_self (by omega) (by decide))
      rw [List.head?_append] at h0
      cases e : Lib.decDigits (u / 10) with
      | nil => exact h1.1 e
      | cons a r =>
        rw [e] at h0 h1
        simp at h0
        have h2 := h1.2 (by simp [h0])
        simp at h2
        subst h2 h0
        have := numVal_digits (u / 10)
        rw [e] at this
        simp [numVal] at this
        omega
theorem digits_len {u : Nat} : ∀ k, u < 10 ^ (k + 1) → (Lib.decDigits u).length ≤ k + 1 := by
  induction u using Nat.strongRecOn with
  | _ u ih =>
    intro k hk
    rw [digits_rec]
    split
    · simp
    next h =>
      rw [List.length_append, List.length_singleton]
      cases k with
      | zero => simp at hk; omega
      | succ k =>
        have := ih (u / 10) (Nat.div_lt_self (by omega) (by decide)) k (by rw [Nat.pow_succ] at hk; omega)
        omega
theorem numR_itoa {n : Int} (h1 : -1 ≤ n) (h2 : n ≤ 2147483647) : numR (Lib.itoa n) = n := by
  by_cases h : n = -1
  · subst h; rw [itoa_m1]; rfl
  · obtain ⟨u, rfl⟩ : ∃ u : Nat, n = u := ⟨n.toNat, by omega⟩
    rw [itoa_nat]
    unfold numR
    have hl := digits_lean u
    rw [if_neg ?a, if_neg ?b, if_pos (show ∀ b ∈ Lib.decDigits u, isDig b from fun b hb => digits_mem u b hb), numVal_digits, if_neg (by omega)]
    case a =>
      intro e
      have := digits_mem u 45 (by rw [e]; simp)
      simp at this
    case b =>
      rintro (e | e | ⟨e, f⟩)
      · exact hl.1 e
      · have := digits_len (u := u) 9 (by omega)
        omega
      · have := hl.2 e; omega


/-- an event as the reference reads it off a line without its end -/
def evR (t : List UInt8) : Ev × Bool := match cutS 32 t with
  | [a, b, c, d] => (⟨numR a, numR b, c, numR d⟩, decide (0 ≤ numR a) && (decide (-1 ≤ numR b) && (decide (0 ≤ numR d) && known c)))
  | _ => (⟨0, 0, [], 0⟩, false)
theorem cutS_join {c : UInt8} : ∀ (l : List UInt8), ((cutS c l).intersperse [c]).flatten = l
  | [] => rfl
  | b :: l => by
    have ih := cutS_join (c := c) l
    simp only [cutS]
    split
    next e =>
      subst e
      cases h : cutS b l with
      | nil => exact absurd h (cutS_ne _ _)
      | cons p ps =>
        rw [h] at ih
        rw [List.intersperse_cons_cons]
        simp [ih]
    next e =>
      split
      next h => exact absurd h (cutS_ne _ _)
      next p ps h =>
        rw [h] at ih
        cases ps with
        | nil => simp at ih ⊢; exact ih
        | cons q qs =>
          rw [List.intersperse_cons_cons] at ih ⊢
          simp at ih ⊢
          exact ih
theorem cutS_four {t a b c d : List UInt8} (h : cutS 32 t = [a, b, c, d]) : t = a ++ [32] ++ b ++ [32] ++ c ++ [32] ++ d := by
  have := cutS_join (c := 32) t
  rw [h] at this
  simp at this
  simp [← this]
theorem evR_ok {t : List UInt8} {x : Ev} (h : evR t = (x, true)) : x.right = true ∧ x.line = t ++ [10] := by
  unfold evR at h
  split at h
  next a b c d e =>
    obtain ⟨rfl, h2⟩ := Prod.mk.inj h
    simp only [Bool.and_eq_true, decide_eq_true_eq] at h2
    obtain ⟨h1, h2, h3, h4⟩ := h2
    obtain ⟨ea, la⟩ := numR_is rfl (by omega : -1 ≤ numR a)
    obtain ⟨eb, lb⟩ := numR_is rfl h2
    obtain ⟨ed, ld⟩ := numR_is rfl (by omega : -1 ≤ numR d)
    refine ⟨?_, ?_⟩
    · unfold Ev.right
      simp only [Bool.and_eq_true, decide_eq_true_eq]
      exact ⟨h1, h2, h3, by omega, h4⟩
    · unfold Ev.line
      simp only
      rw [← ea, ← eb, ← ed, cutS_four e]
  · cases (Prod.mk.inj h).2
theorem evR_line {y : Ev} {t : List UInt8} (hy : y.right = true) (h : y.line = t ++ [10]) : evR t = (y, true) := by
  have hr := right_is hy
  have hc := line_cut hr
  rw [h, trim_end] at hc
  unfold evR
  rw [hc]
  simp only [numR_itoa (by have := hr.task; omega) hr.task.2, numR_itoa hr.ask.1 hr.ask.2, numR_itoa (by have := hr.span; omega) hr.span.2, hr.stage, decide_eq_true hr.task.1, decide_eq_true hr.ask.1, decide_eq_true hr.span.1]
  rfl
/-- a right event is its line's -/
theorem line_inj {x y : Ev} (hx : x.right = true) (hy : y.right = true) (h : x.line = y.line) : x = y := by
  have e : y.line = (Lib.itoa y.task ++ [32] ++ Lib.itoa y.ask ++ [32] ++ y.stage ++ [32] ++ Lib.itoa y.span) ++ [10] := rfl
  have h1 := evR_line hx (h.trans e)
  have h2 := evR_line hy e
  rw [h1] at h2
  exact (Prod.mk.inj h2).1
theorem lines_inj {L M : List Ev} : (∀ x ∈ L, x.right = true) → (∀ x ∈ M, x.right = true) → L.map Ev.line = M.map Ev.line → L = M := by
  induction L generalizing M with
  | nil => intro _ _ h; cases M with
    | nil => rfl
    | cons y M => simp at h
  | cons x L ih => intro h1 h2 h; cases M with
    | nil => simp at h
    | cons y M =>
      simp only [List.map_cons, List.cons.injEq] at h
      rw [line_inj (h1 x (by simp)) (h2 y (by simp)) h.1, ih (fun z hz => h1 z (by simp [hz])) (fun z hz => h2 z (by simp [hz])) h.2]
theorem line_end (y : Ev) : ∃ t, y.line = t ++ [10] := ⟨_, rfl⟩
end Go.Proofs.YtcemhpdhcmlhlaaGreatDoor

/-
  The reference: is it a stage? A number in digits. No condition.
-/
namespace Go.Proofs.YtcemhpdhcmlhlaaGreatDoor
open Go.RowKit Go.Deep Go.Shelf

theorem known_of {s : List UInt8} (b : Bool) (h : b = true ↔ s ∈ stagesL) : b = known s := by
  unfold known
  rw [Bool.eq_iff_iff, h, List.contains_iff_mem]

set_option maxRecDepth 100000 in
set_option maxHeartbeats 4000000 in
theorem refKnown_h (s : List UInt8) (w : World) :
    Calls Tryz.prog 16 #[str s] w fun e w' => e = .returned (.bool (known s)) ∧ w' = w := by
  go_enter Tryz.func16, Tryz.ntmps16
  go_wp2
  all_goals first
    | (exfalso; simp_all; done)
    | (go_ret; refine ⟨congrArg (fun b => Ending.returned (Value.bool b)) ?_, rfl⟩; simp_all [known, stagesL])

theorem one_byte (w : World) (t : TypeId) (c : UInt8) : ∀ j (hj : j < [c].length), (w.alloc (.cells #[.int .u8 (c.toNat : Int)] t)).cell? ((⟨w.heap.size, 0, none⟩ : Addr).add j) = some (.int .u8 ([c][j].toNat : Int)) := by
  intro j hj
  have : j = 0 := by simp at hj; omega
  subst this
  simp [Addr.add]
theorem conv_one (w : World) (c : UInt8) : (convert 37 9 (.slice (some ⟨w.heap.size, 0, none⟩) 1 1)).run Tryz.prog (w.alloc (.cells #[.int .u8 (c.toNat : Int)] 5)) = .ok (str [c]) (w.alloc (.cells #[.int .u8 (c.toNat : Int)] 5)) :=
  run_convert_bytes_back _ _ _ 5 ⟨w.heap.size, 0, none⟩ 1 [c] Tryz.underlying37 Tryz.underlying5 Tryz.underlying9 (one_byte _ _ _)
theorem digit_at (k : Nat) (h : k < 10) (h2 : k < (⟨#[48, 49, 50, 51, 52, 53, 54, 55, 56, 57]⟩ : ByteArray).size) : (⟨#[48, 49, 50, 51, 52, 53, 54, 55, 56, 57]⟩ : ByteArray)[k]'h2 = UInt8.ofNat (48 + k) := by
  have : k = 0 ∨ k = 1 ∨ k = 2 ∨ k = 3 ∨ k = 4 ∨ k = 5 ∨ k = 6 ∨ k = 7 ∨ k = 8 ∨ k = 9 := by omega
  rcases this with rfl | rfl | rfl | rfl | rfl | rfl | rfl | rfl | rfl | rfl <;> rfl
set_option maxRecDepth 100000 in
set_option maxHeartbeats 4000000 in
theorem refNum_h (n : Int) (hn : -1 ≤ n) (hn2 : n ≤ 9223372036854775807) (w : World) :
    Calls Tryz.prog 26 #[.int .i64 n] w fun e w' => e = .returned (str (Lib.itoa n)) ∧ Fr (fun _ => False) w w' := by
  by_cases h0 : n = -1
  · subst h0
    go_enter Tryz.func26, Tryz.ntmps26
    go_wp2
    go_ret
    exact ⟨by rw [itoa_m1]; rfl, Fr.refl _ _⟩
  · obtain ⟨u, rfl⟩ : ∃ u : Nat, n = u := ⟨n.toNat, by omega⟩
    go_enter Tryz.func26, Tryz.ntmps26
    go_wp2
    go_loopg [0, 3] (u + 1) (fun k i t wr => ∃ (v : Nat) (l : List UInt8), i = .int .i64 v ∧ t = str l ∧ Hid (v < k ∧ v ≤ u ∧ Lib.decDigits u = Lib.decDigits v ++ l ∧ Fr (fun _ => False) w wr))
    case atStart =>
      exact ⟨u, [], rfl, rfl, Lib.hid ⟨by omega, by omega, by simp, Fr.refl _ _⟩⟩
    case round =>
      obtain ⟨v, l, rfl, rfl, hj⟩ := hrel
      have hv : (v : Int) ≤ 9223372036854775807 := by have := hj.out.2.1; omega
      go_wp2
      rw [conv_one]
      simp only [Result.andThen]
      rw [Oper.upon_value]
      have hll : l.length ≤ 19 := by
        have h1 := digits_len (u := u) 18 (by omega)
        rw [hj.out.2.2.1, List.length_append] at h1
        omega
      have hc := Lib.hid (show ∀ h, (⟨#[(⟨#[48, 49, 50, 51, 52, 53, 54, 55, 56, 57]⟩ : ByteArray)[v % 10]'h]⟩ : ByteArray) ++ ⟨l.toArray⟩ = ⟨(UInt8.ofNat (48 + v % 10) :: l).toArray⟩ from fun h => by
        rw [digit_at _ (Nat.mod_lt _ (by decide))]
        exact str_append [_] l)
      go_wp2
      · rename_i hq
        have hq : v < 10 := by simp only [beq_iff_eq] at hq; omega
        go_ret
        refine ⟨congrArg (fun x => Ending.returned (Value.string x)) ((hc.out _).trans ?_), hj.out.2.2.2.alloc _⟩
        rw [itoa_nat, hj.out.2.2.1, digits_rec v, if_pos hq, Nat.mod_eq_of_lt hq]
        rfl
      · rename_i hq
        have hq : ¬ v < 10 := by simp only [beq_eq_false_iff_ne, ne_eq] at hq; omega
        go_roundg (gk - 1)
        case measure => have := hj.out.1; omega
        case rel =>
          refine ⟨v / 10, UInt8.ofNat (48 + v % 10) :: l, rfl, congrArg Value.string (hc.out _), Lib.hid ⟨by have := hj.out.1; omega, by have := hj.out.2.1; omega, ?_, hj.out.2.2.2.alloc _⟩⟩
          rw [hj.out.2.2.1, digits_rec v, if_neg hq]
          simp
end Go.Proofs.YtcemhpdhcmlhlaaGreatDoor

/-
  The reference: an event's line. Condition: the event is right.
-/
namespace Go.Proofs.YtcemhpdhcmlhlaaGreatDoor
open Go.RowKit Go.Deep Go.Shelf
namespace SX

/-- the reference's numerals -/
noncomputable def spNum : Spec := fun args h n K => match args with
  | [x] => (match intOf .i64 x with
    | some z => if big0 h then .need (-1 ≤ z ∧ z ≤ 9223372036854775807) (K true (.s ⟨(Lib.itoa z).toArray⟩) h n) else .fail 710
    | none => .fail 711)
  | _ => .fail 712
theorem spNum_ok {W : World} : SpecEnters Tryz.prog (bigW W) 26 spNum where
  enter := enter_of Tryz.func26 (bodyOf_eq (by kernel_rfl)) (by kernel_rfl)
  calls := by
    intro C Q args h n K hB hk ρ w vs hv hH hbd
    unfold spNum at hk
    split at hk
    next x =>
      split at hk
      next z hz =>
        split at hk
        next hb =>
          obtain ⟨v, e1, hx⟩ := hv.one
          have hvz := intOf_rel hz hx
          subst hvz
          have e2 : vs = #[.int .i64 z] := by rw [← Array.toList_inj, e1]
          subst e2
          refine (refNum_h z hk.1.1 hk.1.2 w).mono ?_
          rintro e w' ⟨rfl, hf⟩
          exact ⟨true, _, .s ⟨(Lib.itoa z).toArray⟩, h, n, ρ, rfl, by simp only [SV.Rel], hH.quiet hf, .refl _, hbd, hk.2 hk.1⟩
        · exact hk.elim
      · exact hk.elim
    · exact hk.elim
noncomputable def refLineT (a b c : Int) (st : ByteArray) (Q : Bool → SV → Heap → Nat → Prop) : Tree :=
  runP Tryz.prog [(26, spNum)] 17 Tryz.f17 [.agg [.i .i64 a, .i .i64 b, .s st, .i .i64 c]] heap0 1 (askK Q)
def refLineL (a b c : Int) (st : ByteArray) (Q : Bool → SV → Heap → Nat → Prop) : List Prop := [-1 ≤ a ∧ a ≤ 9223372036854775807, c = c ∧ True, st = st ∧ True, b = b ∧ True,
    longest ((A1 a).size + sp1.size), -1 ≤ b ∧ b ≤ 9223372036854775807, c = c ∧ True, st = st ∧ True, longest ((A1 a ++ sp1).size + (A1 b).size), longest ((A1 a ++ sp1 ++ A1 b).size + sp1.size),
    longest ((A1 a ++ sp1 ++ A1 b ++ sp1).size + st.size), longest ((A1 a ++ sp1 ++ A1 b ++ sp1 ++ st).size + sp1.size), -1 ≤ c ∧ c ≤ 9223372036854775807, st = st ∧ True,
    longest ((A1 a ++ sp1 ++ A1 b ++ sp1 ++ st ++ sp1).size + (A1 c).size), longest ((A1 a ++ sp1 ++ A1 b ++ sp1 ++ st ++ sp1 ++ A1 c).size + (bytesOf [10]).size),
    Q true (.s (A1 a ++ sp1 ++ A1 b ++ sp1 ++ st ++ sp1 ++ A1 c ++ bytesOf [10])) [(1, .cells 24 [.i .i64 a, .i .i64 b, .s st, .i .i64 c]), (0, .big .z)] 2]
theorem refLine_tree (a b c : Int) (st : ByteArray) (Q : Bool → SV → Heap → Nat → Prop) : refLineT a b c st Q = needs (refLineL a b c st Q) .stop := by kernel_rfl
theorem refLine_den {a b c : Int} {st : ByteArray} {Q : Bool → SV → Heap → Nat → Prop} {R : Ex → St → Prop} (h : allT (refLineL a b c st Q)) : (refLineT a b c st Q).den R := by rw [refLine_tree]; exact needs_den h trivial
end SX
set_option maxRecDepth 100000 in
theorem refLine_h (x : Ev) (hx : RightIs x) (hs : x.stage.length ≤ 1000000000000000) (w : World) :
    Calls Tryz.prog 17 #[x.val] w fun e w' => e = .returned (str x.line) ∧ Fr (fun _ => False) w w' := by
  have l1 := Lib.itoa_length_le _ hx.wf.task.1 hx.wf.task.2
  have l2 := Lib.itoa_length_le _ hx.wf.ask.1 hx.wf.ask.2
  have l3 := Lib.itoa_length_le _ hx.wf.span.1 hx.wf.span.2
  have h1 := hx.task
  have h2 := hx.ask
  have h3 := hx.span
  refine (SX.whole_ask (SX.runP_ok SX.fit (SX.cons_ok (.inl SX.spNum_ok) SX.nil_ok) Tryz.func17 (by kernel_rfl)) (args := [.agg [.i .i64 x.task, .i .i64 x.ask, .s ⟨x.stage.toArray⟩, .i .i64 x.span]]) (vs := #[x.val]) ?_
    (fun b v h _ => b = true ∧ v = .s ⟨x.line.toArray⟩ ∧ SX.big0 h = true) ?_).mono ?_
  · refine .cons ?_ .nil
    simp only [SX.SV.Rel]
    exact ⟨_, rfl, .cons (by simp only [SX.SV.Rel]) (.cons (by simp only [SX.SV.Rel]) (.cons (by simp only [SX.SV.Rel]) (.cons (by simp only [SX.SV.Rel]) .nil)))⟩
  · refine SX.refLine_den ?_
    simp only [SX.refLineL, SX.allT, SX.longest, SX.A1, SX.sp1, SX.bytesOf, str_append, size_mk, List.length_append, List.length_singleton, and_true, true_and]
    refine ⟨by omega, by omega, by omega, by omega, by omega, by omega, by omega, by omega, by omega, by omega, ?_, rfl⟩
    rfl
  · rintro e w' ⟨b, v, h, n, ρ, u, rfl, hr, hH, _, rfl, rfl, hb⟩
    simp only [SX.SV.Rel] at hr
    subst hr
    exact ⟨rfl, hH.frW hb⟩
end Go.Proofs.YtcemhpdhcmlhlaaGreatDoor

/-
  The reference: a numeral read. No condition.
-/
namespace Go.Proofs.YtcemhpdhcmlhlaaGreatDoor
open Go.RowKit Go.Deep Go.Shelf

theorem numVal_lt : ∀ (k : Nat) (l : List UInt8), l.length ≤ k → (∀ b ∈ l, isDig b) → numVal l < 10 ^ k := by
  intro k l
  induction l using snoc_ind generalizing k with
  | h0 => intro _ _; simp only [numVal, List.foldl_nil]; exact Nat.pow_pos (by decide)
  | h1 l x ih =>
    intro hk hd
    rw [List.length_append, List.length_singleton] at hk
    obtain ⟨k, rfl⟩ : ∃ j, k = j + 1 := ⟨k - 1, by omega⟩
    have := ih k (by omega) (fun b hb => hd b (by simp [hb]))
    have hx := hd x (by simp)
    unfold isDig at hx
    rw [numVal_snoc, Nat.pow_succ]
    omega
theorem take_snoc {α : Type} {l : List α} {j : Nat} {x : α} (h : l[j]? = some x) : l.take (j + 1) = l.take j ++ [x] := by
  rw [List.take_add_one, h]; rfl
theorem byte_at {t : List UInt8} {j : Nat} {b : UInt8} (h : t[j]? = some b) (h2 : j < (⟨t.toArray⟩ : ByteArray).size) : (⟨t.toArray⟩ : ByteArray)[j]'h2 = b := by
  obtain ⟨h1, e⟩ := List.getElem?_eq_some_iff.1 h
  rw [← e]; rfl

theorem numR_else {t : List UInt8} (h1 : ¬ t = [45, 49]) (h2 : ¬ t = []) (h3 : ¬ 10 < t.length) (h4 : t.head? = some 48 → ¬ 1 < t.length) : numR t = if ∀ b ∈ t, isDig b then (if numVal t > 2147483647 then -2 else ((numVal t : Nat) : Int)) else (-2 : Int) := by
  unfold numR
  rw [if_neg h1, if_neg]
  rintro (h | h | ⟨h, h'⟩)
  · exact h2 h
  · exact h3 h
  · exact h4 h h'
set_option maxRecDepth 100000 in
set_option maxHeartbeats 4000000 in
theorem refNumber_h (t : List UInt8) (w : World) :
    Calls Tryz.prog 32 #[str t] w fun e w' => e = .returned (.int .i64 (numR t)) ∧ w' = w := by
  by_cases h1 : t = [45, 49]
  · subst h1
    go_enter Tryz.func32, Tryz.ntmps32
    go_wp2
    go_ret
    exact ⟨rfl, rfl⟩
  by_cases h2 : t = []
  · subst h2
    go_enter Tryz.func32, Tryz.ntmps32
    go_wp2
    go_ret
    exact ⟨rfl, rfl⟩
  obtain ⟨c, hc⟩ : ∃ c, t[0]? = some c := by
    cases t with
    | nil => exact absurd rfl h2
    | cons c t => exact ⟨c, rfl⟩
  have hh : t.head? = some c := by rw [← hc, List.head?_eq_getElem?]
  have hl0 : 0 < t.length := List.length_pos_iff.2 h2
  have hl0' : 0 < (⟨t.toArray⟩ : ByteArray).size := by rw [size_mk]; exact hl0
  have hc0 := byte_at hc hl0'
  have n1 : (t == [45, 49]) = false := by simpa using h1
  have n2 : (t == []) = false := by simpa using h2
  by_cases h3 : 10 < t.length
  · have hR := Lib.hid (show numR t = -2 from by unfold numR; rw [if_neg h1, if_pos (.inr (.inl h3))])
    go_enter Tryz.func32, Tryz.ntmps32
    go_wp2
    go_ret
    exact ⟨by rw [hR.out]; rfl, rfl⟩
  by_cases h4 : c = 48 ∧ 1 < t.length
  · have hR := Lib.hid (show numR t = -2 from by unfold numR; rw [if_neg h1, if_pos (.inr (.inr ⟨by rw [hh, h4.1], h4.2⟩))])
    obtain ⟨h4, h5⟩ := h4
    subst h4
    go_enter Tryz.func32, Tryz.ntmps32
    go_wp2
    go_ret
    exact ⟨by rw [hR.out]; rfl, rfl⟩
  have hR := Lib.hid (numR_else h1 h2 h3 (fun e h => h4 ⟨by rw [hh] at e; exact Option.some.inj e, h⟩))
  have n4 : ¬ (c.toNat = 48 ∧ 1 < t.length) := fun h => h4 ⟨UInt8.toNat_inj.1 h.1, h.2⟩
  have n5 : c.toNat = 48 → t.length = 1 := fun h => by
    rcases Nat.lt_or_ge 1 t.length with h' | h'
    · exact absurd ⟨h, h'⟩ n4
    · omega
  have n6 : (t.length : Int) ≤ 10 := by omega
  clear h4 n4 hh hc
  by_cases h48 : c = 48
  · subst h48
    have n7 : ((1 : Int) < t.length) = False := eq_false (by have := n5 rfl; omega)
    clear n5
    go_enter Tryz.func32, Tryz.ntmps32
    go_wp2
    clear hc0
    go_loopg [3, 4] t.length (fun k a i wr => ∃ (j : Nat), i = .int .i64 j ∧ a = .int .i64 (numVal (t.take j)) ∧ wr = w ∧ Hid (j + k = t.length ∧ ∀ b ∈ t.take j, isDig b))
    case atStart => exact ⟨0, rfl, rfl, rfl, Lib.hid ⟨by simp, by simp⟩⟩
    case round =>
      obtain ⟨j, rfl, rfl, rfl, hj⟩ := hrel
      by_cases hlt : j < t.length
      · obtain ⟨b, hb⟩ : ∃ b, t[j]? = some b := ⟨_, List.getElem?_eq_getElem hlt⟩
        have hbs : j < (⟨t.toArray⟩ : ByteArray).size := by rw [size_mk]; exact hlt
        have hb0 := byte_at hb hbs
        have hv := Lib.hid (numVal_lt 10 (t.take j) (by rw [List.length_take]; omega) hj.out.2)
        have hv2 : ((numVal (t.take j) : Nat) : Int) < 10000000000 := by have := hv.out; omega
        have hsn := Lib.hid (take_snoc hb)
        have hbm := Lib.hid (show b ∈ t from List.mem_of_getElem? hb)
        clear hb
        by_cases hd : isDig b
        · have d1 : ((b.toNat : Int) < 48) = False := eq_false (by have := hd.1; omega)
          have d2 : ((57 : Int) < b.toNat) = False := eq_false (by have := hd.2; omega)
          have d3 : (48 : Int) ≤ b.toNat := by have := hd.1; omega
          have d4 : (b.toNat : Int) ≤ 57 := by have := hd.2; omega
          go_wp2
          go_roundg (gk - 1)
          case measure => have := hj.out.1; omega
          case rel =>
            refine ⟨j + 1, by go_num, ?_, rfl, Lib.hid ⟨by have := hj.out.1; omega, ?_⟩⟩
            · rw [hsn.out, numVal_snoc]
              exact congrArg (Value.int .i64) (by omega)
            · intro x hx
              rw [hsn.out, List.mem_append, List.mem_singleton] at hx
              rcases hx with hx | rfl
              · exact hj.out.2 x hx
              · exact hd
        · have hno := Lib.hid (show ¬ ∀ b ∈ t, isDig b from fun h => hd (h b hbm.out))
          replace hR := Lib.hid (hR.out.trans (if_neg hno.out))
          rcases Nat.lt_or_ge b.toNat 48 with d0 | d0
          · have d1 : (b.toNat : Int) < 48 := by omega
            go_wp2
            go_ret
            exact ⟨by rw [hR.out]; rfl, rfl⟩
          · have d1 : (48 : Int) ≤ b.toNat := by omega
            have d2 : (57 : Int) < b.toNat := by
              rcases Nat.lt_or_ge 57 b.toNat with h | h
              · omega
              · exact absurd ⟨d0, h⟩ hd
            go_wp2
            go_ret
            exact ⟨by rw [hR.out]; rfl, rfl⟩
      · have hall : ∀ b ∈ t, isDig b := by
          have := hj.out.2
          rwa [List.take_of_length_le (by omega)] at this
        replace hR := Lib.hid (hR.out.trans (if_pos hall))
        have hje := Lib.hid (show t.take j = t from List.take_of_length_le (by omega))
        have hje2 : numVal (t.take j) = numVal t := by rw [hje.out]
        by_cases hm : numVal t > 2147483647
        · have hm2 : (2147483647 : Int) < numVal t := by omega
          replace hR := Lib.hid (hR.out.trans (if_pos hm))
          go_wp2
          go_ret
          exact ⟨by rw [hR.out]; rfl, rfl⟩
        · have hm2 : (numVal t : Int) ≤ 2147483647 := by omega
          replace hR := Lib.hid (hR.out.trans (if_neg hm))
          go_wp2
          go_ret
          exact ⟨by rw [hR.out]; exact congrArg (fun n : Nat => Ending.returned (Value.int .i64 n)) hje2, rfl⟩
  · have n7 : ((c.toNat : Int) == 48) = false := by
      have : c.toNat ≠ 48 := fun h => h48 (UInt8.toNat_inj.1 h)
      simp only [beq_eq_false_iff_ne, ne_eq]; omega
    have n8 : ((c.toNat : Int) = 48) = False := by simpa using n7
    clear n5 h48
    go_enter Tryz.func32, Tryz.ntmps32
    go_wp2
    clear hc0
    go_loopg [3, 4] t.length (fun k a i wr => ∃ (j : Nat), i = .int .i64 j ∧ a = .int .i64 (numVal (t.take j)) ∧ wr = w ∧ Hid (j + k = t.length ∧ ∀ b ∈ t.take j, isDig b))
    case atStart => exact ⟨0, rfl, rfl, rfl, Lib.hid ⟨by simp, by simp⟩⟩
    case round =>
      obtain ⟨j, rfl, rfl, rfl, hj⟩ := hrel
      by_cases hlt : j < t.length
      · obtain ⟨b, hb⟩ : ∃ b, t[j]? = some b := ⟨_, List.getElem?_eq_getElem hlt⟩
        have hbs : j < (⟨t.toArray⟩ : ByteArray).size := by rw [size_mk]; exact hlt
        have hb0 := byte_at hb hbs
        have hv := Lib.hid (numVal_lt 10 (t.take j) (by rw [List.length_take]; omega) hj.out.2)
        have hv2 : ((numVal (t.take j) : Nat) : Int) < 10000000000 := by have := hv.out; omega
        have hsn := Lib.hid (take_snoc hb)
        have hbm := Lib.hid (show b ∈ t from List.mem_of_getElem? hb)
        clear hb
        by_cases hd : isDig b
        · have d1 : ((b.toNat : Int) < 48) = False := eq_false (by have := hd.1; omega)
          have d2 : ((57 : Int) < b.toNat) = False := eq_false (by have := hd.2; omega)
          have d3 : (48 : Int) ≤ b.toNat := by have := hd.1; omega
          have d4 : (b.toNat : Int) ≤ 57 := by have := hd.2; omega
          go_wp2
          go_roundg (gk - 1)
          case measure => have := hj.out.1; omega
          case rel =>
            refine ⟨j + 1, by go_num, ?_, rfl, Lib.hid ⟨by have := hj.out.1; omega, ?_⟩⟩
            · rw [hsn.out, numVal_snoc]
              exact congrArg (Value.int .i64) (by omega)
            · intro x hx
              rw [hsn.out, List.mem_append, List.mem_singleton] at hx
              rcases hx with hx | rfl
              · exact hj.out.2 x hx
              · exact hd
        · have hno := Lib.hid (show ¬ ∀ b ∈ t, isDig b from fun h => hd (h b hbm.out))
          replace hR := Lib.hid (hR.out.trans (if_neg hno.out))
          rcases Nat.lt_or_ge b.toNat 48 with d0 | d0
          · have d1 : (b.toNat : Int) < 48 := by omega
            go_wp2
            go_ret
            exact ⟨by rw [hR.out]; rfl, rfl⟩
          · have d1 : (48 : Int) ≤ b.toNat := by omega
            have d2 : (57 : Int) < b.toNat := by
              rcases Nat.lt_or_ge 57 b.toNat with h | h
              · omega
              · exact absurd ⟨d0, h⟩ hd
            go_wp2
            go_ret
            exact ⟨by rw [hR.out]; rfl, rfl⟩
      · have hall : ∀ b ∈ t, isDig b := by
          have := hj.out.2
          rwa [List.take_of_length_le (by omega)] at this
        replace hR := Lib.hid (hR.out.trans (if_pos hall))
        have hje := Lib.hid (show t.take j = t from List.take_of_length_le (by omega))
        have hje2 : numVal (t.take j) = numVal t := by rw [hje.out]
        by_cases hm : numVal t > 2147483647
        · have hm2 : (2147483647 : Int) < numVal t := by omega
          replace hR := Lib.hid (hR.out.trans (if_pos hm))
          go_wp2
          go_ret
          exact ⟨by rw [hR.out]; rfl, rfl⟩
        · have hm2 : (numVal t : Int) ≤ 2147483647 := by omega
          replace hR := Lib.hid (hR.out.trans (if_neg hm))
          go_wp2
          go_ret
          exact ⟨by rw [hR.out]; exact congrArg (fun n : Nat => Ending.returned (Value.int .i64 n)) hje2, rfl⟩
end Go.Proofs.YtcemhpdhcmlhlaaGreatDoor

/-
  A range over a function that keeps a value of its own in one cell: the law for its caller. No program in sight.
-/
namespace Go.Proofs.YtcemhpdhcmlhlaaGreatDoor
open Go.RowKit

/-- the iterator's own cell -/
def cellS (b : Nat) : Addr := ⟨b, 0, none⟩
/-- what a round that goes on leaves of it -/
def KeepC (b : Nat) (W W' : World) : Prop := W'.heap[b]? = W.heap[b]?
/-- what an iterator gives, one by one, whatever its caller keeps -/
def SeqCell {α : Type} (F : Fence) (n : Nat) (P : Program) (g : Nat) (lb : Array Value) (encs : α → Array Value) (b : Nat) (o0 : Obj) (S Sp : List α → Prop) (N : Nat) : Prop :=
  ∀ (l : Nat) (J Jx : List α → World → Prop) (W : World),
    (∀ s W v, J s W → J s (W.setCell (cellS b) v)) → (∀ s W, J s W → J s W.drew) →
    (∀ pre x W1, J pre W1 → pre.length < N → YieldAt F (n - 1) P l (encs x) W1 fun e W' =>
      (e = .returned (.bool true) ∧ J (pre ++ [x]) W' ∧ KeepC b W1 W') ∨ (e = .returned (.bool false) ∧ Jx (pre ++ [x]) W')) →
    J [] W → W.heap[b]? = some o0 →
    CallsIn F n P g (#[.func (.yield l) #[] #[]] ++ lb) W fun e W' => (∃ v, e = .returned v) ∧ ((∃ xs, S xs ∧ J xs W') ∨ (∃ pre, Sp pre ∧ Jx pre W'))
/-- how a body may be left -/
def leftAs {α : Type} (b : Nat) (I : List α → World → Prop) (Ix : Code → List α → World → Prop) (xs : List α) (W : World) : Exit → Act → World → Prop
  | .normal, _, W' => KeepsOthers W W' ∧ KeepC b W W' ∧ I xs W'
  | .ret, _, W' => KeepsOthers W W' ∧ Ix .ret xs W'
  | _, _, _ => False
/-- what a caller's word abides -/
structure Abide {β : Type} (b D : Nat) (I : β → World → Prop) : Prop where
  put : ∀ s W l o o', I s W → D ≤ l → W.heap[l]? = some o → o.isCells = false → I s (W.putObj l o')
  set : ∀ s W v, I s W → I s (W.setCell (cellS b) v)
  drew : ∀ s W, I s W → I s W.drew

theorem set_other {W : World} {b k : Nat} {o : Obj} {v : Value} (h : W.heap[k]? = some o) (ho : o.isCells = false) : (W.setCell (cellS b) v).heap[k]? = some o := by
  rw [heap_setCell]
  split
  next e =>
    rw [h]
    cases o <;> first | rfl | (simp [Obj.isCells] at ho)
  · exact h

section
variable {F : Fence} {n : Nat} {P : Program}
theorem range_cell {α : Type} {g : Operand} {ps : Array Tmp} {assign body : Code} {Q : Exit → Act → World → Prop} {a : Act} {w : World}
    (hro : F.round = none) (h1 : 1 ≤ n) {gf : Nat} {lb : Array Value} (hg : a.eval g = .func (.func gf) #[] lb) (hFg : F.fn gf) (eg : ∀ args w, (callFunc gf args).run P w = .ok (.enter gf args) w)
    {encs : α → Array Value} {b : Nat} {o0 : Obj} {S Sp : List α → Prop} {N : Nat} (hseq : SeqCell F (n - 1) P gf lb encs b o0 S Sp N) (hb : w.heap[b]? = some o0) (hps : ∀ x, (encs x).size = ps.size)
    (I : List α → World → Prop) (Ix : Code → List α → World → Prop) (hI : Abide b w.heap.size I) (hIx : ∀ c, Abide b w.heap.size (Ix c))
    (h0 : ∀ o o', I [] ((w.alloc o).alloc o')) (a₁ : α → Act)
    (hassign : ∀ (l : Nat) (x : α) (W : World) (K : Act → World → Prop), K (a₁ x) W →
      assign.wpIn (F.inRound l) (n - 1 - 1) P (Exit.then K (fun _ _ _ => False)) { tmps := (ps.zip (encs x)).foldl (fun t (p, v) => t.setIfInBounds p v) a.tmps, defers := [] } W)
    (hbody : ∀ (l : Nat) (pre : List α) (x : α) (W : World), I pre W → pre.length < N → body.wpIn (F.inRound l) (n - 1 - 1) P (leftAs b I Ix (pre ++ [x]) W) (a₁ x) W)
    (hdone : ∀ (D : Nat) (xs : List α) (W : World), S xs → I xs W → W.heap[D]? = some (.deferred (some [])) → w.heap.size ≤ D → Q .normal { a with defers := { target := .collected D, args := #[] } :: a.defers } W)
    (hstop : ∀ (D : Nat) (pre : List α) (W : World), Sp pre → Ix .ret pre W → W.heap[D]? = some (.deferred (some [])) → w.heap.size ≤ D → Code.ret.wpIn F n P Q { a with defers := { target := .collected D, args := #[] } :: a.defers } W) :
    (Code.rangeFunc g ps assign body).wpIn F n P Q a w := by
  have hbl : b < w.heap.size := lt_blk hb
  refine wpIn_rangeFunc fun fn hfn => ?_
  rw [hro]
  -- the loop's record
  let rec_ : LoopState → Option Code → Loop := fun st pe => { state := st, pending := pe, fn, tmps := a.tmps, params := ps, assign, body, defers := w.heap.size }
  have szR : (w.alloc (.deferred (some []))).heap.size = w.heap.size + 1 := World.size_alloc ..
  have hL : ((w.alloc (.deferred (some []))).alloc (.loop (rec_ .ready none))).heap[w.heap.size + 1]? = some (.loop (rec_ .ready none)) := by
    rw [heap_alloc, if_pos szR.symm]
  have hD : ((w.alloc (.deferred (some []))).alloc (.loop (rec_ .ready none))).heap[w.heap.size]? = some (.deferred (some [])) := by
    rw [heap_alloc, if_neg (by omega), heap_alloc, if_pos rfl]
  have hB : ((w.alloc (.deferred (some []))).alloc (.loop (rec_ .ready none))).heap[b]? = some o0 := by
    rw [heap_alloc, if_neg (by omega), heap_alloc, if_neg (by omega)]; exact hb
  obtain ⟨W1, hW1⟩ : ∃ W1, W1 = (w.alloc (.deferred (some []))).alloc (.loop (rec_ .ready none)) := ⟨_, rfl⟩
  refine ⟨w.heap.size + 1, [{ target := .collected w.heap.size, args := #[] }], W1, { target := .fn (.func gf) lb, args := #[.func (.yield (w.heap.size + 1)) #[] #[]] }, W1, gf,
    #[.func (.yield (w.heap.size + 1)) #[] #[]] ++ lb, W1, ?_, ?_, ?_, ?_, fun _ => h1, ?_⟩
  · rw [hW1]; exact run_enterLoop_outer _ _ _ _ _
  · simp only [resolve, hg]
    simp [go_sem]
  · intro f' hf'; simp [Target.leads] at hf'; subst hf'; exact hFg
  · simp [invoke, go_sem, eg]
  rw [← hW1] at hL hD hB
  have h0' : I [] W1 := by rw [hW1]; exact h0 _ _
  -- the caller's word, and the record's
  have keep : ∀ (c : Option Code) (st : LoopState) (W : World) (l : Nat) (o : Obj), W.heap[w.heap.size + 1]? = some (.loop (rec_ st c)) → W.heap[w.heap.size]? = some o →
      (W.putObj (w.heap.size + 1) (.loop (rec_ st c))).heap[w.heap.size]? = some o := fun c st W l o _ h => (World.putObj_heap_other (by omega)).trans h
  refine (hseq (w.heap.size + 1)
    (fun pre W => I pre W ∧ W.heap[w.heap.size + 1]? = some (.loop (rec_ .ready none)) ∧ W.heap[w.heap.size]? = some (.deferred (some [])))
    (fun pre W => Ix .ret pre W ∧ W.heap[w.heap.size + 1]? = some (.loop (rec_ .done (some .ret))) ∧ W.heap[w.heap.size]? = some (.deferred (some [])))
    _ (fun s W v h => ⟨hI.set _ _ _ h.1, set_other h.2.1 rfl, set_other h.2.2 rfl⟩) (fun s W h => ⟨hI.drew _ _ h.1, h.2.1, h.2.2⟩) ?_ ⟨h0', hL, hD⟩ hB).mono ?_
  · rintro pre x W ⟨hi, hl, hk⟩ hlen
    have hy := run_yield (P := P) (args := encs x) hl (hps x)
    refine ⟨fn, _, assign, body, hy, roundIn_of_wpIn hfn (hassign _ x W _ ⟨_, run_beginRound hl rfl, ?_⟩)⟩
    have hlt : w.heap.size + 1 < W.heap.size := lt_blk hl
    obtain ⟨Wb, hWb⟩ : ∃ Wb, Wb = W.putObj (w.heap.size + 1) (.loop { rec_ .ready none with state := .busy }) := ⟨_, rfl⟩
    have hl2 : Wb.heap[w.heap.size + 1]? = some (.loop { rec_ .ready none with state := .busy }) := by rw [hWb]; exact World.putObj_heap_same hlt
    have hk2 : Wb.heap[w.heap.size]? = some (.deferred (some [])) := by rw [hWb]; exact (World.putObj_heap_other (by omega)).trans hk
    have hi2 : I pre Wb := by rw [hWb]; exact hI.put _ _ _ _ _ hi (by omega) hl rfl
    have hc2 : KeepC b W Wb := by rw [hWb]; exact World.putObj_heap_other (by omega)
    rw [← hWb]
    refine wpIn_mono (hbody _ pre x _ hi2 hlen) ?_
    have fin : ∀ (jump : Option Code) (W3 : World), KeepsOthers Wb W3 →
        (Instr.endRound (w.heap.size + 1) jump).run P W3 = .ok (.bool jump.isNone) (W3.putObj (w.heap.size + 1) (.loop (rec_ (if jump.isNone then .ready else .done) jump))) ∧
        W3.heap[w.heap.size + 1]? = some (.loop { rec_ .ready none with state := .busy }) ∧
        (W3.putObj (w.heap.size + 1) (.loop (rec_ (if jump.isNone then .ready else .done) jump))).heap[w.heap.size + 1]? = some (.loop (rec_ (if jump.isNone then .ready else .done) jump)) ∧
        (W3.putObj (w.heap.size + 1) (.loop (rec_ (if jump.isNone then .ready else .done) jump))).heap[w.heap.size]? = some (.deferred (some [])) := fun jump W3 hk3 => by
      have hl3 := hk3.same _ _ hl2 rfl
      exact ⟨run_endRound (P := P) jump hl3, hl3, World.putObj_heap_same (lt_blk hl3), (World.putObj_heap_other (by omega)).trans (hk3.same _ _ hk2 rfl)⟩
    rintro e a3 W3 hp
    cases e with
    | normal =>
      obtain ⟨hk3, hkc, hi3⟩ := hp
      obtain ⟨hr, hl3, hl4, hk4⟩ := fin none W3 hk3
      exact ⟨_, _, hr, .inl ⟨rfl, ⟨hI.put _ _ _ _ _ hi3 (by omega) hl3 rfl, hl4, hk4⟩, ((World.putObj_heap_other (by omega)).trans hkc).trans hc2⟩⟩
    | ret =>
      obtain ⟨hk3, hi3⟩ := hp
      obtain ⟨hr, hl3, hl4, hk4⟩ := fin (some .ret) W3 hk3
      exact ⟨_, _, hr, .inr ⟨rfl, (hIx _).put _ _ _ _ _ hi3 (by omega) hl3 rfl, hl4, hk4⟩⟩
    | exit id => exact hp.elim
    | goto t => exact hp.elim
    | panic ch => exact hp.elim
    | outgrown => exact hp.elim
  · rintro e W2 ⟨⟨v, rfl⟩, (⟨xs, hS, hi, hl, hk⟩ | ⟨pre, hSp, hi, hl, hk⟩)⟩
    · exact ⟨none, _, run_endLoop (P := P) hl (by simp [rec_]), hdone _ xs _ hS (hI.put _ _ _ _ _ hi (by omega) hl rfl) ((World.putObj_heap_other (by omega)).trans hk) (Nat.le_refl _)⟩
    · exact ⟨some .ret, _, run_endLoop (P := P) hl (by simp [rec_]), hstop _ pre _ hSp ((hIx _).put _ _ _ _ _ hi (by omega) hl rfl) ((World.putObj_heap_other (by omega)).trans hk) (Nat.le_refl _)⟩
end
end Go.Proofs.YtcemhpdhcmlhlaaGreatDoor

/-
  strings.Lines: its lines, one by one. No condition.
-/
namespace Go.Proofs.YtcemhpdhcmlhlaaGreatDoor
open Go.RowKit Go.Deep Go.Shelf
attribute [local go_sem] Oper.semAt_some

/-- the lines of a text, each with its end -/
def linesOf : List UInt8 → List (List UInt8)
  | [] => []
  | b :: l => if b = 10 then [10] :: linesOf l else match linesOf l with
    | [] => [[b]]
    | q :: qs => (b :: q) :: qs
theorem linesOf_ix : ∀ {l : List UInt8} {i : Nat}, Lib.indexByte l 10 = (i : Int) → linesOf l = l.take (i + 1) :: linesOf (l.drop (i + 1))
  | [], i, h => by simp [Lib.indexByte] at h
  | b :: l, i, h => by
    unfold Lib.indexByte at h
    by_cases hb : b = 10
    · subst hb
      simp at h
      have : i = 0 := by omega
      subst this
      simp [linesOf]
    · rw [if_neg (by simpa using hb)] at h
      split at h
      · omega
      next hne =>
        have hne : Lib.indexByte l 10 ≠ -1 := by simpa using hne
        have h1 := Lib.indexByte_ge l 10
        cases i with
        | zero => omega
        | succ i =>
          have h2 : Lib.indexByte l 10 = (i : Int) := by omega
          have := linesOf_ix h2
          rw [linesOf, if_neg hb, this]
          rfl
theorem linesOf_no : ∀ {l : List UInt8}, Lib.indexByte l 10 = -1 → l ≠ [] → linesOf l = [l]
  | [], _, h => absurd rfl h
  | b :: l, h, _ => by
    unfold Lib.indexByte at h
    by_cases hb : b = 10
    · subst hb; simp at h
    · rw [if_neg (by simpa using hb)] at h
      split at h
      next e =>
        have e : Lib.indexByte l 10 = -1 := by simpa using e
        unfold linesOf
        rw [if_neg hb]
        cases l with
        | nil => rfl
        | cons c l => rw [linesOf_no e (by simp)]
      next e =>
        have := Lib.indexByte_ge l 10
        omega
theorem ix_lt {l : List UInt8} {i : Nat} (h : Lib.indexByte l 10 = (i : Int)) : i < l.length := by
  have := (Lib.indexByte_some h).1
  exact (List.getElem?_eq_some_iff.1 this).1
/-- a line of a text that is not too long -/
abbrev Ln := {l : List UInt8 // l.length ≤ 1000000000}
def lnEnc (x : Ln) : Array Value := #[str x.1]
def leftIn (b : Nat) (W : World) : Nat := match W.cell? ⟨b, 0, none⟩ with
  | some (.string x) => x.size
  | _ => 0
/-- between two rounds -/
structure LnI (b : Nat) (s : List UInt8) (J : List Ln → World → Prop) (W : World) (pre : List Ln) (r : List UInt8) : Prop where
  box : W.heap[b]? = some (.cells #[str r] 9 (0, 0))
  cut : linesOf s = pre.map (·.1) ++ linesOf r
  len : r.length ≤ 1000000000
  j : J pre W
theorem LnI.left {b : Nat} {s r : List UInt8} {J : List Ln → World → Prop} {W : World} {pre : List Ln} (h : LnI b s J W pre r) : leftIn b W = r.length := by
  unfold leftIn
  rw [cell_blk h.box 0]
  simp [size_mk]

set_option maxRecDepth 100000 in
set_option maxHeartbeats 2000000 in
theorem lines1_h (n : Nat) (hn : 1 ≤ n) (b : Nat) (s : List UInt8) (hs : s.length ≤ 1000000000) :
    SeqCell Fence.wide n Tryz.prog 27 #[.pointer (some ⟨b, 0, none⟩)] lnEnc b (.cells #[str s] 9 (0, 0))
      (fun xs => xs.map (·.1) = linesOf s) (fun pre => pre.map (·.1) <+: linesOf s) (linesOf s).length := by
  intro l J Jx W hset hdrew hY h0 hb
  have hL : LnI b s J W [] s := ⟨hb, rfl, hs, h0⟩
  refine callsIn_of_wp Tryz.func27 rfl trivial ?_ rfl
  simp only [List.append_toArray, List.cons_append, List.nil_append, Tryz.ntmps27, List.size_toArray, List.length_cons, List.length_nil, Nat.reduceAdd, Nat.reduceSub, Array.replicate_succ, Array.replicate_zero, List.push_toArray]
  gi_wp2
  gi_loopw [] (fun wr => ∃ pre r, LnI b s J wr pre r) (fun wr => leftIn b wr)
  case atStart => exact ⟨_, _, hL⟩
  case round =>
    obtain ⟨pre, r, hI⟩ := hrel
    have hc := cell_blk hI.box 0
    have hf := free_blk hI.box 0
    simp only [List.getElem?_toArray, List.getElem?_cons_zero] at hc
    by_cases hr : r = []
    · subst hr
      gi_wp2
      go_end0
      exact ⟨⟨_, rfl⟩, .inl ⟨pre, by have := hI.cut; rw [show linesOf [] = [] from rfl, List.append_nil] at this; exact this.symm, hI.j⟩⟩
    · have hlt : ((r.length : Int) > 0) := by have := List.length_pos_iff.2 hr; omega
      have hF28 : Fence.wide.fn 28 := trivial
      have hIx := Tryz.strings_IndexByte ⟨r.toArray⟩ 10 wr
      have hlen : pre.length < (linesOf s).length := by
        have h1 : 0 < (linesOf r).length := by
          cases r with
          | nil => exact absurd rfl hr
          | cons c r =>
            unfold linesOf
            split
            · simp
            · split <;> simp
        rw [hI.cut, List.length_append, List.length_map]; omega
      have hge := Lib.indexByte_ge r 10
      rcases (by omega : Lib.indexByte r 10 = -1 ∨ 0 ≤ Lib.indexByte r 10) with hix | hix
      · have hIx' : Calls Tryz.prog 28 #[str r, .int .u8 10] wr fun e w' => e = .returned (.int .i64 (-1)) ∧ wr = w' := hIx.mono (by
          rintro e w' ⟨rfl, rfl⟩
          refine ⟨?_, rfl⟩
          rw [← hix]; rfl)
        obtain ⟨fn, tmps, assign, body, hy, hR⟩ := hY pre ⟨r, hI.len⟩ (wr.setCell ⟨b, 0, none⟩ (.string ⟨#[]⟩)) (hset _ _ _ hI.j) hlen
        simp only [lnEnc] at hy
        clear hIx
        gi_wp2_with (gi_at_call 28; refine (CallsIn.mono (callsIn_wide.2 hIx') ?_); rintro e w' ⟨rfl, rfl⟩)
        refine hR.mono ?_
        rintro e W3 (⟨rfl, hJ3, hk3⟩ | ⟨rfl, hJx3⟩)
        · gi_wp2
          go_roundw
          case rel =>
            refine ⟨pre ++ [⟨r, hI.len⟩], [], ⟨hk3.trans ?_, ?_, by simp, hJ3⟩⟩
            · rw [heap_setCell_at hI.box]; rfl
            · rw [hI.cut, linesOf_no hix hr]; simp [linesOf]
          case measure =>
            rw [hI.left]
            have : leftIn b W3 = 0 := by
              unfold leftIn
              have hb3 : W3.heap[b]? = some (.cells #[.string ⟨#[]⟩] 9 (0, 0)) := hk3.trans (by rw [heap_setCell_at hI.box]; rfl)
              rw [cell_blk hb3 0]
              rfl
            rw [this]
            exact List.length_pos_iff.2 hr
        · gi_wp2
          refine bodyPost_ret (results_none rfl _ _ _) rfl ?_
          refine ⟨⟨_, rfl⟩, .inr ⟨_, ?_, hJx3⟩⟩
          rw [hI.cut, linesOf_no hix hr]; simp
      · obtain ⟨i, hi⟩ : ∃ i : Nat, Lib.indexByte r 10 = i := ⟨_, (Int.toNat_of_nonneg hix).symm⟩
        have hil := ix_lt hi
        have hIx' : Calls Tryz.prog 28 #[str r, .int .u8 10] wr fun e w' => e = .returned (.int .i64 i) ∧ wr = w' := hIx.mono (by
          rintro e w' ⟨rfl, rfl⟩
          refine ⟨?_, rfl⟩
          rw [← hi]; rfl)
        clear hIx
        have e1 : (⟨r.toArray⟩ : ByteArray).extract 0 (i + 1) = ⟨(r.take (i + 1)).toArray⟩ := by
          apply ByteArray.ext; simp [ByteArray.data_extract]
        have e2 : (⟨r.toArray⟩ : ByteArray).extract (i + 1) r.length = ⟨(r.drop (i + 1)).toArray⟩ := by
          apply ByteArray.ext; simp [ByteArray.data_extract]; exact List.take_of_length_le (by rw [List.length_drop]; omega)
        have hll : (r.take (i + 1)).length ≤ 1000000000 := by have := hI.len; rw [List.length_take]; omega
        obtain ⟨fn, tmps, assign, body, hy, hR⟩ := hY pre ⟨r.take (i + 1), hll⟩ (wr.setCell ⟨b, 0, none⟩ (.string ⟨(r.drop (i + 1)).toArray⟩)).drew (hdrew _ _ (hset _ _ _ hI.j)) hlen
        simp only [lnEnc, str] at hy
        have hw1 : wrap64 ((i : Int) + 1) = (((i + 1 : Nat)) : Int) := by have := hI.len; unfold wrap64; omega
        have hw2 : i + 1 ≤ r.length := hil
        gi_wp2_with (gi_at_call 28; refine (CallsIn.mono (callsIn_wide.2 hIx') ?_); rintro e w' ⟨rfl, rfl⟩)
        gi_region
        gi_wp2
        refine hR.mono ?_
        rintro e W3 (⟨rfl, hJ3, hk3⟩ | ⟨rfl, hJx3⟩)
        · have hb3 : W3.heap[b]? = some (.cells #[str (r.drop (i + 1))] 9 (0, 0)) := hk3.trans (by
            show (World.setCell wr _ _).heap[b]? = _
            rw [heap_setCell_at hI.box]; rfl)
          have hI3 : LnI b s J W3 (pre ++ [⟨r.take (i + 1), hll⟩]) (r.drop (i + 1)) := ⟨hb3, by rw [hI.cut, linesOf_ix hi]; simp, by have := hI.len; rw [List.length_drop]; omega, hJ3⟩
          gi_wp2
          go_roundw
          case rel => exact ⟨_, _, hI3⟩
          case measure =>
            rw [hI.left, hI3.left, List.length_drop]
            omega
        · gi_wp2
          refine bodyPost_ret (results_none rfl _ _ _) rfl ?_
          refine ⟨⟨_, rfl⟩, .inr ⟨_, ?_, hJx3⟩⟩
          rw [hI.cut, linesOf_ix hi]; simp

/-- Lines itself: the text boxed, the closure -/
theorem lines_h (s : ByteArray) (w : World) :
    Calls Tryz.prog 18 #[.string s] w fun e w' => e = .returned (.func (.func 27) #[] #[.pointer (some ⟨w.heap.size, 0, none⟩)]) ∧ w' = w.alloc (.cells #[.string s] 9) := by
  go_enter Tryz.func18, Tryz.ntmps18
  go_wp2
  go_ret
  exact ⟨rfl, rfl⟩
end Go.Proofs.YtcemhpdhcmlhlaaGreatDoor
