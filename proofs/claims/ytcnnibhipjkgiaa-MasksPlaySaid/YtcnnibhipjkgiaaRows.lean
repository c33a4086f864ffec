/-
  No cell of these rows narrows 'for every input' (looked for: loops, veiled, ifaces, maps, wideKeys, modest, calm, conditions, laid).
  DERIVED. THE GIVEN ROWS OF THIS SEAT. 4 by the template 'for every input the law returns true; each argument reads behind the call as it read before'; 0 by the template 'total and deterministic' (their statements: YtcnnibhipjkgiaaTotals.lean).
  GIVEN WITH THE SEED: the statements are not yours to turn. If you find one false, say at which input.
  Laid BY PROGRAM, IN A SANDBOX (cutbox-rows.mjs): the forced cells as the released guide's own fill.sh prints them over the translation d1908ad81a167628… (all of the seat's roots in one cut). By AI agents, Wed Nov 11 2026. No macro, syntax, notation, axiom, sorry.
-/
import Derived.Test.YtcnnibhipjkgiaaChecked
import GoSem.Claim
import GoSem.ClaimJoined
import GoSem.ClaimMapViews
import Derived.JoinedTies
import Derived.KernelRfl
namespace Go.Proofs.Ytcnnibhipjkgiaa
/- THE CELL 'sum', in the pinned program and in every row, IS THE sha256 OF THE DUMP (.gsa) THAT YtcnnibhipjkgiaaProg.lean LOADS. Nothing in Lean hashes anything: it is a label: what it is worth is what the hold of that sum in a sandbox is worth. -/
noncomputable def Try.pinned : Pinned := { name := "ytcnnibhipjkgiaa", sum := "d1908ad81a16762897363bbcb1eb226265f82f9600bebeec57b0b69136dc82f7", checked := Try.checked }
namespace Rows
def none {H : Type} : Left H := { results := [], args := [] }

/-- 'mallowlaw15.MasksBack': WHATEVER THE INPUT: true; the input reads as it did. -/
def masksBackSpec : ChangeSpec := { name := "masksBack", fn := fun _ => fun
  | [d1, d2, d3, d4] => { results := [.lit (.bool true)], args := [d1, d2, d3, d4] }
  | _ => none }
def masksBackRow : OpenClaim := { program := "ytcnnibhipjkgiaa", sum := "d1908ad81a16762897363bbcb1eb226265f82f9600bebeec57b0b69136dc82f7", func := "mallow/mallowlaw15.MasksBack", spec := "masksBack", unfollowed := true, recurses := true, apart := false }
def MasksBackSaid : Prop := masksBackRow.holds Try.pinned (OpenSpec.ofChange masksBackSpec)

/-- ITS FALSE NEIGHBOUR: 'it returns false'. Refute it at one input. -/
def masksBackWrong : ChangeSpec := { name := "masksBack", fn := fun _ => fun
  | [d1, d2, d3, d4] => { results := [.lit (.bool false)], args := [d1, d2, d3, d4] }
  | _ => none }
def MasksBackWrongFalsely : Prop := masksBackRow.holds Try.pinned (OpenSpec.ofChange masksBackWrong)

/-- 'mallowlaw15.MasksOver': WHATEVER THE INPUT: true; the input reads as it did. -/
def masksOverSpec : ChangeSpec := { name := "masksOver", fn := fun _ => fun
  | [d1, d2] => { results := [.lit (.bool true)], args := [d1, d2] }
  | _ => none }
def masksOverRow : OpenClaim := { program := "ytcnnibhipjkgiaa", sum := "d1908ad81a16762897363bbcb1eb226265f82f9600bebeec57b0b69136dc82f7", func := "mallow/mallowlaw15.MasksOver", spec := "masksOver", unfollowed := true, recurses := true, apart := false }
def MasksOverSaid : Prop := masksOverRow.holds Try.pinned (OpenSpec.ofChange masksOverSpec)

/-- ITS FALSE NEIGHBOUR: 'it returns false'. Refute it at one input. -/
def masksOverWrong : ChangeSpec := { name := "masksOver", fn := fun _ => fun
  | [d1, d2] => { results := [.lit (.bool false)], args := [d1, d2] }
  | _ => none }
def MasksOverWrongFalsely : Prop := masksOverRow.holds Try.pinned (OpenSpec.ofChange masksOverWrong)

/-- 'mallowlaw15.MasksPlay': WHATEVER THE INPUT: true; the input reads as it did. -/
def masksPlaySpec : ChangeSpec := { name := "masksPlay", fn := fun _ => fun
  | [d] => { results := [.lit (.bool true)], args := [d] }
  | _ => none }
def masksPlayRow : OpenClaim := { program := "ytcnnibhipjkgiaa", sum := "d1908ad81a16762897363bbcb1eb226265f82f9600bebeec57b0b69136dc82f7", func := "mallow/mallowlaw15.MasksPlay", spec := "masksPlay", unfollowed := true, recurses := true, apart := false }
def MasksPlaySaid : Prop := masksPlayRow.holds Try.pinned (OpenSpec.ofChange masksPlaySpec)

/-- ITS FALSE NEIGHBOUR: 'it returns false'. Refute it at one input. -/
def masksPlayWrong : ChangeSpec := { name := "masksPlay", fn := fun _ => fun
  | [d] => { results := [.lit (.bool false)], args := [d] }
  | _ => none }
def MasksPlayWrongFalsely : Prop := masksPlayRow.holds Try.pinned (OpenSpec.ofChange masksPlayWrong)

/-- 'mallowlaw15.MasksGreat': WHATEVER THE INPUT: true; the input reads as it did. -/
def masksGreatSpec : ChangeSpec := { name := "masksGreat", fn := fun _ => fun
  | [d1, d2, d3] => { results := [.lit (.bool true)], args := [d1, d2, d3] }
  | _ => none }
def masksGreatRow : OpenClaim := { program := "ytcnnibhipjkgiaa", sum := "d1908ad81a16762897363bbcb1eb226265f82f9600bebeec57b0b69136dc82f7", func := "mallow/mallowlaw15.MasksGreat", spec := "masksGreat", unfollowed := true, recurses := true, apart := false }
def MasksGreatSaid : Prop := masksGreatRow.holds Try.pinned (OpenSpec.ofChange masksGreatSpec)

/-- ITS FALSE NEIGHBOUR: 'it returns false'. Refute it at one input. -/
def masksGreatWrong : ChangeSpec := { name := "masksGreat", fn := fun _ => fun
  | [d1, d2, d3] => { results := [.lit (.bool false)], args := [d1, d2, d3] }
  | _ => none }
def MasksGreatWrongFalsely : Prop := masksGreatRow.holds Try.pinned (OpenSpec.ofChange masksGreatWrong)

/- THE SECOND FORM. 'bulk': how many values and letters a reading holds, each counted each time it is reached (what is shared counts as often as it is met; a slice's spare places count too). A statement '..UptoSaid' is the law's where the arguments, and the package variables that the reading takes, are together of bulk at most 1048576: NARROWER than '..Said'. Prove '..Said' where nothing that the law and all that it calls make is longer than what came in: it says more and counts as full. Else prove '..UptoSaid'. A law counts once. -/
mutual
def uptoBulk {H : Type} : DataW H → Nat
  | .lit (.string bytes) => bytes.length + 1
  | .lit _ => 1
  | .nil => 1
  | .ptr d => uptoBulk d + 1
  | .slice elems spare => uptoBulkAll elems + uptoBulkAll spare + 1
  | .agg parts => uptoBulkAll parts + 1
  | .iface _ d => uptoBulk d + 1
  | .map entries => uptoBulkEntries entries + 1
  | .held _ => 1
def uptoBulkAll {H : Type} : List (DataW H) → Nat
  | [] => 0
  | d :: r => uptoBulk d + uptoBulkAll r
def uptoBulkEntries {H : Type} : List (Lit × DataW H) → Nat
  | [] => 0
  | x :: r => uptoBulkEntry x + uptoBulkEntries r
def uptoBulkEntry {H : Type} : Lit × DataW H → Nat
  | (.string bytes, d) => bytes.length + uptoBulk d + 1
  | (_, d) => uptoBulk d + 1
 end
def uptoSmall : (H : Type) → List (DataW H) → Bool := fun _ ds => decide (uptoBulkAll ds ≤ 1048576)
def OpenSpec.upto (s : _root_.Go.ChangeSpec) : _root_.Go.OpenSpec := { _root_.Go.OpenSpec.ofChange s with cond := some uptoSmall }

/-- 'mallowlaw15.MasksBack', WHERE WHAT IT READS IS OF BULK AT MOST 1048576: true; the input reads as it did. -/
def masksBackUptoRow : OpenClaim := { program := "ytcnnibhipjkgiaa", sum := "d1908ad81a16762897363bbcb1eb226265f82f9600bebeec57b0b69136dc82f7", func := "mallow/mallowlaw15.MasksBack", spec := "masksBack", unfollowed := true, recurses := true, apart := false, narrowed := true }
def MasksBackUptoSaid : Prop := masksBackUptoRow.holds Try.pinned (OpenSpec.upto masksBackSpec)

/-- 'mallowlaw15.MasksOver', WHERE WHAT IT READS IS OF BULK AT MOST 1048576: true; the input reads as it did. -/
def masksOverUptoRow : OpenClaim := { program := "ytcnnibhipjkgiaa", sum := "d1908ad81a16762897363bbcb1eb226265f82f9600bebeec57b0b69136dc82f7", func := "mallow/mallowlaw15.MasksOver", spec := "masksOver", unfollowed := true, recurses := true, apart := false, narrowed := true }
def MasksOverUptoSaid : Prop := masksOverUptoRow.holds Try.pinned (OpenSpec.upto masksOverSpec)

/-- 'mallowlaw15.MasksPlay', WHERE WHAT IT READS IS OF BULK AT MOST 1048576: true; the input reads as it did. -/
def masksPlayUptoRow : OpenClaim := { program := "ytcnnibhipjkgiaa", sum := "d1908ad81a16762897363bbcb1eb226265f82f9600bebeec57b0b69136dc82f7", func := "mallow/mallowlaw15.MasksPlay", spec := "masksPlay", unfollowed := true, recurses := true, apart := false, narrowed := true }
def MasksPlayUptoSaid : Prop := masksPlayUptoRow.holds Try.pinned (OpenSpec.upto masksPlaySpec)

/-- 'mallowlaw15.MasksGreat', WHERE WHAT IT READS IS OF BULK AT MOST 1048576: true; the input reads as it did. -/
def masksGreatUptoRow : OpenClaim := { program := "ytcnnibhipjkgiaa", sum := "d1908ad81a16762897363bbcb1eb226265f82f9600bebeec57b0b69136dc82f7", func := "mallow/mallowlaw15.MasksGreat", spec := "masksGreat", unfollowed := true, recurses := true, apart := false, narrowed := true }
def MasksGreatUptoSaid : Prop := masksGreatUptoRow.holds Try.pinned (OpenSpec.upto masksGreatSpec)

end Rows
end Go.Proofs.Ytcnnibhipjkgiaa
