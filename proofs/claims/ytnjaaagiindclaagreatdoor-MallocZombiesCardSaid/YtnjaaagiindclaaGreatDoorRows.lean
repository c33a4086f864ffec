/-
  NARROWER THAN 'FOR EVERY INPUT', by the rows' own cells (each row's printed sentence says how): MallocRound: laid · MallocSpecials: laid · MallocZombies: laid · MallocErrors: laid · MallocTiny: laid · MallocZeroes: laid · MallocMasks: laid.
  DERIVED. THE GIVEN ROWS OF THIS SEAT. 7 by the template 'for every input the law returns true; each argument reads behind the call as it read before'; 0 by the template 'total and deterministic' (their statements: YtnjaaagiindclaaGreatDoorTotals.lean).
  GIVEN WITH THE SEED: the statements are not yours to turn. If you find one false, say at which input.
  Laid BY PROGRAM, IN A SANDBOX (cutbox-rows.mjs): the forced cells as the released guide's own fill.sh prints them over the translation ac05cd9215560f57… (all of the seat's roots in one cut). By AI agents, Wed Nov 11 2026. No macro, syntax, notation, axiom, sorry.
-/
import Derived.Test.YtnjaaagiindclaaGreatDoorChecked
import GoSem.Claim
import GoSem.ClaimJoined
import GoSem.ClaimMapViews
import Derived.JoinedTies
import Derived.KernelRfl
namespace Go.Proofs.YtnjaaagiindclaaGreatDoor
/- THE CELL 'sum', in the pinned program and in every row, IS THE sha256 OF THE DUMP (.gsa) THAT YtnjaaagiindclaaGreatDoorProg.lean LOADS. Nothing in Lean hashes anything: it is a label: what it is worth is what the hold of that sum in a sandbox is worth. -/
noncomputable def Tryz.pinned : Pinned := { name := "ytnjaaagiindclaagreatdoor", sum := "ac05cd9215560f577cd4c7d4221f54f080134cb0d9a1c39a4c0b6b64426799c8", checked := Tryz.checked }
namespace Rows
def none {H : Type} : Left H := { results := [], args := [] }

/- WHAT THE LISTED PACKAGE-LEVEL VARIABLES READ AS WHEN THE CALL BEGINS. Each datum BY PROGRAM (the guide's laid-datum.mjs) off the statement by which the dump's own 'gosem.cut.vars' lays the variable. In a bare row this is a premise. The card (YtnjaaagiindclaaGreatDoorCards.lean) ties it to the program's text. -/
def laid_math_bits_deBruijn64tab {H : Type} : DataW H := .agg [.lit (.int .u8 0), .lit (.int .u8 1), .lit (.int .u8 56), .lit (.int .u8 2), .lit (.int .u8 57), .lit (.int .u8 49), .lit (.int .u8 28), .lit (.int .u8 3), .lit (.int .u8 61), .lit (.int .u8 58), .lit (.int .u8 42), .lit (.int .u8 50), .lit (.int .u8 38), .lit (.int .u8 29), .lit (.int .u8 17), .lit (.int .u8 4), .lit (.int .u8 62), .lit (.int .u8 47), .lit (.int .u8 59), .lit (.int .u8 36), .lit (.int .u8 45), .lit (.int .u8 43), .lit (.int .u8 51), .lit (.int .u8 22), .lit (.int .u8 53), .lit (.int .u8 39), .lit (.int .u8 33), .lit (.int .u8 30), .lit (.int .u8 24), .lit (.int .u8 18), .lit (.int .u8 12), .lit (.int .u8 5), .lit (.int .u8 63), .lit (.int .u8 55), .lit (.int .u8 48), .lit (.int .u8 27), .lit (.int .u8 60), .lit (.int .u8 41), .lit (.int .u8 37), .lit (.int .u8 16), .lit (.int .u8 46), .lit (.int .u8 35), .lit (.int .u8 44), .lit (.int .u8 21), .lit (.int .u8 52), .lit (.int .u8 32), .lit (.int .u8 23), .lit (.int .u8 11), .lit (.int .u8 54), .lit (.int .u8 26), .lit (.int .u8 40), .lit (.int .u8 15), .lit (.int .u8 34), .lit (.int .u8 20), .lit (.int .u8 31), .lit (.int .u8 10), .lit (.int .u8 25), .lit (.int .u8 14), .lit (.int .u8 19), .lit (.int .u8 9), .lit (.int .u8 13), .lit (.int .u8 8), .lit (.int .u8 7), .lit (.int .u8 6)]

/-- 'mallowlaw23.MallocRound': WHATEVER THE INPUT: true; the input reads as it did. -/
def mallocRoundSpec : ChangeSpec := { name := "mallocRound", fn := fun _ => fun
  | [d1, d2, d3] => { results := [.lit (.bool true)], args := [d1, d2, d3] }
  | _ => none }
def mallocRoundRow : OpenClaim := { program := "ytnjaaagiindclaagreatdoor", sum := "ac05cd9215560f577cd4c7d4221f54f080134cb0d9a1c39a4c0b6b64426799c8", func := "mallow/mallowlaw23.MallocRound", spec := "mallocRound", inPlace := ["math/bits.Add64", "math.Float64frombits", "math.Float64bits"], unfollowed := true, recurses := true, named := ["math/bits.deBruijn64tab"], plainKeys := false, apart := false, laid := [("math/bits.deBruijn64tab", laid_math_bits_deBruijn64tab)] }
def MallocRoundSaid : Prop := mallocRoundRow.holds Tryz.pinned (OpenSpec.ofChange mallocRoundSpec)

/-- ITS FALSE NEIGHBOUR: 'it returns false'. Refute it at one input. -/
def mallocRoundWrong : ChangeSpec := { name := "mallocRound", fn := fun _ => fun
  | [d1, d2, d3] => { results := [.lit (.bool false)], args := [d1, d2, d3] }
  | _ => none }
def MallocRoundWrongFalsely : Prop := mallocRoundRow.holds Tryz.pinned (OpenSpec.ofChange mallocRoundWrong)

/-- 'mallowlaw23.MallocSpecials': WHATEVER THE INPUT: true; the input reads as it did. -/
def mallocSpecialsSpec : ChangeSpec := { name := "mallocSpecials", fn := fun _ => fun
  | [d1, d2, d3] => { results := [.lit (.bool true)], args := [d1, d2, d3] }
  | _ => none }
def mallocSpecialsRow : OpenClaim := { program := "ytnjaaagiindclaagreatdoor", sum := "ac05cd9215560f577cd4c7d4221f54f080134cb0d9a1c39a4c0b6b64426799c8", func := "mallow/mallowlaw23.MallocSpecials", spec := "mallocSpecials", inPlace := ["math/bits.Add64", "math.Float64frombits", "math.Float64bits"], unfollowed := true, recurses := true, named := ["math/bits.deBruijn64tab"], plainKeys := false, apart := false, laid := [("math/bits.deBruijn64tab", laid_math_bits_deBruijn64tab)] }
def MallocSpecialsSaid : Prop := mallocSpecialsRow.holds Tryz.pinned (OpenSpec.ofChange mallocSpecialsSpec)

/-- ITS FALSE NEIGHBOUR: 'it returns false'. Refute it at one input. -/
def mallocSpecialsWrong : ChangeSpec := { name := "mallocSpecials", fn := fun _ => fun
  | [d1, d2, d3] => { results := [.lit (.bool false)], args := [d1, d2, d3] }
  | _ => none }
def MallocSpecialsWrongFalsely : Prop := mallocSpecialsRow.holds Tryz.pinned (OpenSpec.ofChange mallocSpecialsWrong)

/-- 'mallowlaw23.MallocZombies': WHATEVER THE INPUT: true; the input reads as it did. -/
def mallocZombiesSpec : ChangeSpec := { name := "mallocZombies", fn := fun _ => fun
  | [d1, d2, d3] => { results := [.lit (.bool true)], args := [d1, d2, d3] }
  | _ => none }
def mallocZombiesRow : OpenClaim := { program := "ytnjaaagiindclaagreatdoor", sum := "ac05cd9215560f577cd4c7d4221f54f080134cb0d9a1c39a4c0b6b64426799c8", func := "mallow/mallowlaw23.MallocZombies", spec := "mallocZombies", inPlace := ["math/bits.Add64", "math.Float64frombits", "math.Float64bits"], unfollowed := true, recurses := true, named := ["math/bits.deBruijn64tab"], plainKeys := false, apart := false, laid := [("math/bits.deBruijn64tab", laid_math_bits_deBruijn64tab)] }
def MallocZombiesSaid : Prop := mallocZombiesRow.holds Tryz.pinned (OpenSpec.ofChange mallocZombiesSpec)

/-- ITS FALSE NEIGHBOUR: 'it returns false'. Refute it at one input. -/
def mallocZombiesWrong : ChangeSpec := { name := "mallocZombies", fn := fun _ => fun
  | [d1, d2, d3] => { results := [.lit (.bool false)], args := [d1, d2, d3] }
  | _ => none }
def MallocZombiesWrongFalsely : Prop := mallocZombiesRow.holds Tryz.pinned (OpenSpec.ofChange mallocZombiesWrong)

/-- 'mallowlaw23.MallocErrors': WHATEVER THE INPUT: true; the input reads as it did. -/
def mallocErrorsSpec : ChangeSpec := { name := "mallocErrors", fn := fun _ => fun
  | [d1, d2, d3, d4, d5] => { results := [.lit (.bool true)], args := [d1, d2, d3, d4, d5] }
  | _ => none }
def mallocErrorsRow : OpenClaim := { program := "ytnjaaagiindclaagreatdoor", sum := "ac05cd9215560f577cd4c7d4221f54f080134cb0d9a1c39a4c0b6b64426799c8", func := "mallow/mallowlaw23.MallocErrors", spec := "mallocErrors", inPlace := ["math/bits.Add64", "math.Float64frombits", "math.Float64bits"], unfollowed := true, recurses := true, named := ["math/bits.deBruijn64tab"], plainKeys := false, apart := false, laid := [("math/bits.deBruijn64tab", laid_math_bits_deBruijn64tab)] }
def MallocErrorsSaid : Prop := mallocErrorsRow.holds Tryz.pinned (OpenSpec.ofChange mallocErrorsSpec)

/-- ITS FALSE NEIGHBOUR: 'it returns false'. Refute it at one input. -/
def mallocErrorsWrong : ChangeSpec := { name := "mallocErrors", fn := fun _ => fun
  | [d1, d2, d3, d4, d5] => { results := [.lit (.bool false)], args := [d1, d2, d3, d4, d5] }
  | _ => none }
def MallocErrorsWrongFalsely : Prop := mallocErrorsRow.holds Tryz.pinned (OpenSpec.ofChange mallocErrorsWrong)

/-- 'mallowlaw23.MallocTiny': WHATEVER THE INPUT: true; the input reads as it did. -/
def mallocTinySpec : ChangeSpec := { name := "mallocTiny", fn := fun _ => fun
  | [d1, d2] => { results := [.lit (.bool true)], args := [d1, d2] }
  | _ => none }
def mallocTinyRow : OpenClaim := { program := "ytnjaaagiindclaagreatdoor", sum := "ac05cd9215560f577cd4c7d4221f54f080134cb0d9a1c39a4c0b6b64426799c8", func := "mallow/mallowlaw23.MallocTiny", spec := "mallocTiny", inPlace := ["math/bits.Add64", "math.Float64frombits", "math.Float64bits"], unfollowed := true, recurses := true, named := ["math/bits.deBruijn64tab"], plainKeys := false, apart := false, laid := [("math/bits.deBruijn64tab", laid_math_bits_deBruijn64tab)] }
def MallocTinySaid : Prop := mallocTinyRow.holds Tryz.pinned (OpenSpec.ofChange mallocTinySpec)

/-- ITS FALSE NEIGHBOUR: 'it returns false'. Refute it at one input. -/
def mallocTinyWrong : ChangeSpec := { name := "mallocTiny", fn := fun _ => fun
  | [d1, d2] => { results := [.lit (.bool false)], args := [d1, d2] }
  | _ => none }
def MallocTinyWrongFalsely : Prop := mallocTinyRow.holds Tryz.pinned (OpenSpec.ofChange mallocTinyWrong)

/-- 'mallowlaw23.MallocZeroes': WHATEVER THE INPUT: true; the input reads as it did. -/
def mallocZeroesSpec : ChangeSpec := { name := "mallocZeroes", fn := fun _ => fun
  | [d1, d2, d3, d4] => { results := [.lit (.bool true)], args := [d1, d2, d3, d4] }
  | _ => none }
def mallocZeroesRow : OpenClaim := { program := "ytnjaaagiindclaagreatdoor", sum := "ac05cd9215560f577cd4c7d4221f54f080134cb0d9a1c39a4c0b6b64426799c8", func := "mallow/mallowlaw23.MallocZeroes", spec := "mallocZeroes", inPlace := ["math/bits.Add64", "math.Float64frombits", "math.Float64bits"], unfollowed := true, recurses := true, named := ["math/bits.deBruijn64tab"], plainKeys := false, apart := false, laid := [("math/bits.deBruijn64tab", laid_math_bits_deBruijn64tab)] }
def MallocZeroesSaid : Prop := mallocZeroesRow.holds Tryz.pinned (OpenSpec.ofChange mallocZeroesSpec)

/-- ITS FALSE NEIGHBOUR: 'it returns false'. Refute it at one input. -/
def mallocZeroesWrong : ChangeSpec := { name := "mallocZeroes", fn := fun _ => fun
  | [d1, d2, d3, d4] => { results := [.lit (.bool false)], args := [d1, d2, d3, d4] }
  | _ => none }
def MallocZeroesWrongFalsely : Prop := mallocZeroesRow.holds Tryz.pinned (OpenSpec.ofChange mallocZeroesWrong)

/-- 'mallowlaw23.MallocMasks': WHATEVER THE INPUT: true; the input reads as it did. -/
def mallocMasksSpec : ChangeSpec := { name := "mallocMasks", fn := fun _ => fun
  | [d1, d2] => { results := [.lit (.bool true)], args := [d1, d2] }
  | _ => none }
def mallocMasksRow : OpenClaim := { program := "ytnjaaagiindclaagreatdoor", sum := "ac05cd9215560f577cd4c7d4221f54f080134cb0d9a1c39a4c0b6b64426799c8", func := "mallow/mallowlaw23.MallocMasks", spec := "mallocMasks", inPlace := ["math/bits.Add64", "math.Float64frombits", "math.Float64bits"], unfollowed := true, recurses := true, named := ["math/bits.deBruijn64tab"], plainKeys := false, apart := false, laid := [("math/bits.deBruijn64tab", laid_math_bits_deBruijn64tab)] }
def MallocMasksSaid : Prop := mallocMasksRow.holds Tryz.pinned (OpenSpec.ofChange mallocMasksSpec)

/-- ITS FALSE NEIGHBOUR: 'it returns false'. Refute it at one input. -/
def mallocMasksWrong : ChangeSpec := { name := "mallocMasks", fn := fun _ => fun
  | [d1, d2] => { results := [.lit (.bool false)], args := [d1, d2] }
  | _ => none }
def MallocMasksWrongFalsely : Prop := mallocMasksRow.holds Tryz.pinned (OpenSpec.ofChange mallocMasksWrong)

/- THE SECOND FORM. 'bulk': how many values and letters a reading holds, each counted each time it is reached (what is shared counts as often as it is met; a slice's spare places count too). A statement '..UptoSaid' is the law's where the arguments, and the package variables that the reading takes, are together of bulk at most 1048576: NARROWER than '..Said'. Prove '..Said' where nothing that the law and all that it calls make is longer than what came in: it says more and counts as full. Else prove '..UptoSaid'. A law counts once. -/
mutual
def uptoBulk {H : Type} : DataW H → Nat
  | .lit (.string bytes) => bytes.length + 1
  | .lit _ => 1
  | .nil => 1
  | .ptr d => uptoBulk d + 1
  | .slice elems spare => uptoBulkAll elems + uptoBulkAll spare + 1
  | .agg parts => uptoBulkAll parts + 1
  | .iface _ d => uptoBulk d + 1
  | .map entries => uptoBulkEntries entries + 1
  | .held _ => 1
def uptoBulkAll {H : Type} : List (DataW H) → Nat
  | [] => 0
  | d :: r => uptoBulk d + uptoBulkAll r
def uptoBulkEntries {H : Type} : List (Lit × DataW H) → Nat
  | [] => 0
  | x :: r => uptoBulkEntry x + uptoBulkEntries r
def uptoBulkEntry {H : Type} : Lit × DataW H → Nat
  | (.string bytes, d) => bytes.length + uptoBulk d + 1
  | (_, d) => uptoBulk d + 1
 end
def uptoSmall : (H : Type) → List (DataW H) → Bool := fun _ ds => decide (uptoBulkAll ds ≤ 1048576)
def OpenSpec.upto (s : _root_.Go.ChangeSpec) : _root_.Go.OpenSpec := { _root_.Go.OpenSpec.ofChange s with cond := some uptoSmall }

/-- 'mallowlaw23.MallocRound', WHERE WHAT IT READS IS OF BULK AT MOST 1048576: true; the input reads as it did. -/
def mallocRoundUptoRow : OpenClaim := { program := "ytnjaaagiindclaagreatdoor", sum := "ac05cd9215560f577cd4c7d4221f54f080134cb0d9a1c39a4c0b6b64426799c8", func := "mallow/mallowlaw23.MallocRound", spec := "mallocRound", inPlace := ["math/bits.Add64", "math.Float64frombits", "math.Float64bits"], unfollowed := true, recurses := true, named := ["math/bits.deBruijn64tab"], plainKeys := false, apart := false, laid := [("math/bits.deBruijn64tab", laid_math_bits_deBruijn64tab)], narrowed := true }
def MallocRoundUptoSaid : Prop := mallocRoundUptoRow.holds Tryz.pinned (OpenSpec.upto mallocRoundSpec)

/-- 'mallowlaw23.MallocSpecials', WHERE WHAT IT READS IS OF BULK AT MOST 1048576: true; the input reads as it did. -/
def mallocSpecialsUptoRow : OpenClaim := { program := "ytnjaaagiindclaagreatdoor", sum := "ac05cd9215560f577cd4c7d4221f54f080134cb0d9a1c39a4c0b6b64426799c8", func := "mallow/mallowlaw23.MallocSpecials", spec := "mallocSpecials", inPlace := ["math/bits.Add64", "math.Float64frombits", "math.Float64bits"], unfollowed := true, recurses := true, named := ["math/bits.deBruijn64tab"], plainKeys := false, apart := false, laid := [("math/bits.deBruijn64tab", laid_math_bits_deBruijn64tab)], narrowed := true }
def MallocSpecialsUptoSaid : Prop := mallocSpecialsUptoRow.holds Tryz.pinned (OpenSpec.upto mallocSpecialsSpec)

/-- 'mallowlaw23.MallocZombies', WHERE WHAT IT READS IS OF BULK AT MOST 1048576: true; the input reads as it did. -/
def mallocZombiesUptoRow : OpenClaim := { program := "ytnjaaagiindclaagreatdoor", sum := "ac05cd9215560f577cd4c7d4221f54f080134cb0d9a1c39a4c0b6b64426799c8", func := "mallow/mallowlaw23.MallocZombies", spec := "mallocZombies", inPlace := ["math/bits.Add64", "math.Float64frombits", "math.Float64bits"], unfollowed := true, recurses := true, named := ["math/bits.deBruijn64tab"], plainKeys := false, apart := false, laid := [("math/bits.deBruijn64tab", laid_math_bits_deBruijn64tab)], narrowed := true }
def MallocZombiesUptoSaid : Prop := mallocZombiesUptoRow.holds Tryz.pinned (OpenSpec.upto mallocZombiesSpec)

/-- 'mallowlaw23.MallocErrors', WHERE WHAT IT READS IS OF BULK AT MOST 1048576: true; the input reads as it did. -/
def mallocErrorsUptoRow : OpenClaim := { program := "ytnjaaagiindclaagreatdoor", sum := "ac05cd9215560f577cd4c7d4221f54f080134cb0d9a1c39a4c0b6b64426799c8", func := "mallow/mallowlaw23.MallocErrors", spec := "mallocErrors", inPlace := ["math/bits.Add64", "math.Float64frombits", "math.Float64bits"], unfollowed := true, recurses := true, named := ["math/bits.deBruijn64tab"], plainKeys := false, apart := false, laid := [("math/bits.deBruijn64tab", laid_math_bits_deBruijn64tab)], narrowed := true }
def MallocErrorsUptoSaid : Prop := mallocErrorsUptoRow.holds Tryz.pinned (OpenSpec.upto mallocErrorsSpec)

/-- 'mallowlaw23.MallocTiny', WHERE WHAT IT READS IS OF BULK AT MOST 1048576: true; the input reads as it did. -/
def mallocTinyUptoRow : OpenClaim := { program := "ytnjaaagiindclaagreatdoor", sum := "ac05cd9215560f577cd4c7d4221f54f080134cb0d9a1c39a4c0b6b64426799c8", func := "mallow/mallowlaw23.MallocTiny", spec := "mallocTiny", inPlace := ["math/bits.Add64", "math.Float64frombits", "math.Float64bits"], unfollowed := true, recurses := true, named := ["math/bits.deBruijn64tab"], plainKeys := false, apart := false, laid := [("math/bits.deBruijn64tab", laid_math_bits_deBruijn64tab)], narrowed := true }
def MallocTinyUptoSaid : Prop := mallocTinyUptoRow.holds Tryz.pinned (OpenSpec.upto mallocTinySpec)

/-- 'mallowlaw23.MallocZeroes', WHERE WHAT IT READS IS OF BULK AT MOST 1048576: true; the input reads as it did. -/
def mallocZeroesUptoRow : OpenClaim := { program := "ytnjaaagiindclaagreatdoor", sum := "ac05cd9215560f577cd4c7d4221f54f080134cb0d9a1c39a4c0b6b64426799c8", func := "mallow/mallowlaw23.MallocZeroes", spec := "mallocZeroes", inPlace := ["math/bits.Add64", "math.Float64frombits", "math.Float64bits"], unfollowed := true, recurses := true, named := ["math/bits.deBruijn64tab"], plainKeys := false, apart := false, laid := [("math/bits.deBruijn64tab", laid_math_bits_deBruijn64tab)], narrowed := true }
def MallocZeroesUptoSaid : Prop := mallocZeroesUptoRow.holds Tryz.pinned (OpenSpec.upto mallocZeroesSpec)

/-- 'mallowlaw23.MallocMasks', WHERE WHAT IT READS IS OF BULK AT MOST 1048576: true; the input reads as it did. -/
def mallocMasksUptoRow : OpenClaim := { program := "ytnjaaagiindclaagreatdoor", sum := "ac05cd9215560f577cd4c7d4221f54f080134cb0d9a1c39a4c0b6b64426799c8", func := "mallow/mallowlaw23.MallocMasks", spec := "mallocMasks", inPlace := ["math/bits.Add64", "math.Float64frombits", "math.Float64bits"], unfollowed := true, recurses := true, named := ["math/bits.deBruijn64tab"], plainKeys := false, apart := false, laid := [("math/bits.deBruijn64tab", laid_math_bits_deBruijn64tab)], narrowed := true }
def MallocMasksUptoSaid : Prop := mallocMasksUptoRow.holds Tryz.pinned (OpenSpec.upto mallocMasksSpec)

end Rows
end Go.Proofs.YtnjaaagiindclaaGreatDoor
