/-
  No cell of these rows narrows 'for every input' (looked for: loops, veiled, ifaces, maps, wideKeys, modest, calm, conditions, laid).
  DERIVED. THE GIVEN ROWS OF THIS SEAT. 4 by the template 'for every input the law returns true; each argument reads behind the call as it read before'; 0 by the template 'total and deterministic' (their statements: YtheadhficajhmaaTotals.lean).
  GIVEN WITH THE SEED: the statements are not yours to turn. If you find one false, say at which input.
  Laid BY PROGRAM, IN A SANDBOX (cutbox-rows.mjs): the forced cells as the released guide's own fill.sh prints them over the translation 7c923e1355f8f30a… (all of the seat's roots in one cut). By AI agents, Wed Nov 11 2026. No macro, syntax, notation, axiom, sorry.
-/
import Derived.Test.YtheadhficajhmaaChecked
import GoSem.Claim
import GoSem.ClaimJoined
import GoSem.ClaimMapViews
import Derived.JoinedTies
import Derived.KernelRfl
namespace Go.Proofs.Ytheadhficajhmaa
/- THE CELL 'sum', in the pinned program and in every row, IS THE sha256 OF THE DUMP (.gsa) THAT YtheadhficajhmaaProg.lean LOADS. Nothing in Lean hashes anything: it is a label: what it is worth is what the hold of that sum in a sandbox is worth. -/
noncomputable def Try.pinned : Pinned := { name := "ytheadhficajhmaa", sum := "7c923e1355f8f30abe833238f04ab8e398d6e667aeba0a245dc9d25864fa9a16", checked := Try.checked }
namespace Rows
def none {H : Type} : Left H := { results := [], args := [] }

/-- 'mallowlaw17.SpecialsBetween': WHATEVER THE INPUT: true; the input reads as it did. -/
def specialsBetweenSpec : ChangeSpec := { name := "specialsBetween", fn := fun _ => fun
  | [d1, d2] => { results := [.lit (.bool true)], args := [d1, d2] }
  | _ => none }
def specialsBetweenRow : OpenClaim := { program := "ytheadhficajhmaa", sum := "7c923e1355f8f30abe833238f04ab8e398d6e667aeba0a245dc9d25864fa9a16", func := "mallow/mallowlaw17.SpecialsBetween", spec := "specialsBetween", plainKeys := false, apart := false }
def SpecialsBetweenSaid : Prop := specialsBetweenRow.holds Try.pinned (OpenSpec.ofChange specialsBetweenSpec)

/-- ITS FALSE NEIGHBOUR: 'it returns false'. Refute it at one input. -/
def specialsBetweenWrong : ChangeSpec := { name := "specialsBetween", fn := fun _ => fun
  | [d1, d2] => { results := [.lit (.bool false)], args := [d1, d2] }
  | _ => none }
def SpecialsBetweenWrongFalsely : Prop := specialsBetweenRow.holds Try.pinned (OpenSpec.ofChange specialsBetweenWrong)

/-- 'mallowlaw17.SpecialsPlay': WHATEVER THE INPUT: true; the input reads as it did. -/
def specialsPlaySpec : ChangeSpec := { name := "specialsPlay", fn := fun _ => fun
  | [d] => { results := [.lit (.bool true)], args := [d] }
  | _ => none }
def specialsPlayRow : OpenClaim := { program := "ytheadhficajhmaa", sum := "7c923e1355f8f30abe833238f04ab8e398d6e667aeba0a245dc9d25864fa9a16", func := "mallow/mallowlaw17.SpecialsPlay", spec := "specialsPlay", plainKeys := false, apart := false }
def SpecialsPlaySaid : Prop := specialsPlayRow.holds Try.pinned (OpenSpec.ofChange specialsPlaySpec)

/-- ITS FALSE NEIGHBOUR: 'it returns false'. Refute it at one input. -/
def specialsPlayWrong : ChangeSpec := { name := "specialsPlay", fn := fun _ => fun
  | [d] => { results := [.lit (.bool false)], args := [d] }
  | _ => none }
def SpecialsPlayWrongFalsely : Prop := specialsPlayRow.holds Try.pinned (OpenSpec.ofChange specialsPlayWrong)

/-- 'mallowlaw17.SpecialsApart': WHATEVER THE INPUT: true; the input reads as it did. -/
def specialsApartSpec : ChangeSpec := { name := "specialsApart", fn := fun _ => fun
  | [d1, d2] => { results := [.lit (.bool true)], args := [d1, d2] }
  | _ => none }
def specialsApartRow : OpenClaim := { program := "ytheadhficajhmaa", sum := "7c923e1355f8f30abe833238f04ab8e398d6e667aeba0a245dc9d25864fa9a16", func := "mallow/mallowlaw17.SpecialsApart", spec := "specialsApart", plainKeys := false, apart := false }
def SpecialsApartSaid : Prop := specialsApartRow.holds Try.pinned (OpenSpec.ofChange specialsApartSpec)

/-- ITS FALSE NEIGHBOUR: 'it returns false'. Refute it at one input. -/
def specialsApartWrong : ChangeSpec := { name := "specialsApart", fn := fun _ => fun
  | [d1, d2] => { results := [.lit (.bool false)], args := [d1, d2] }
  | _ => none }
def SpecialsApartWrongFalsely : Prop := specialsApartRow.holds Try.pinned (OpenSpec.ofChange specialsApartWrong)

/-- 'mallowlaw17.SpecialsOnce': WHATEVER THE INPUT: true; the input reads as it did. -/
def specialsOnceSpec : ChangeSpec := { name := "specialsOnce", fn := fun _ => fun
  | [d1, d2] => { results := [.lit (.bool true)], args := [d1, d2] }
  | _ => none }
def specialsOnceRow : OpenClaim := { program := "ytheadhficajhmaa", sum := "7c923e1355f8f30abe833238f04ab8e398d6e667aeba0a245dc9d25864fa9a16", func := "mallow/mallowlaw17.SpecialsOnce", spec := "specialsOnce", plainKeys := false, apart := false }
def SpecialsOnceSaid : Prop := specialsOnceRow.holds Try.pinned (OpenSpec.ofChange specialsOnceSpec)

/-- ITS FALSE NEIGHBOUR: 'it returns false'. Refute it at one input. -/
def specialsOnceWrong : ChangeSpec := { name := "specialsOnce", fn := fun _ => fun
  | [d1, d2] => { results := [.lit (.bool false)], args := [d1, d2] }
  | _ => none }
def SpecialsOnceWrongFalsely : Prop := specialsOnceRow.holds Try.pinned (OpenSpec.ofChange specialsOnceWrong)

/- THE SECOND FORM. 'bulk': how many values and letters a reading holds, each counted each time it is reached (what is shared counts as often as it is met; a slice's spare places count too). A statement '..UptoSaid' is the law's where the arguments, and the package variables that the reading takes, are together of bulk at most 1048576: NARROWER than '..Said'. Prove '..Said' where nothing that the law and all that it calls make is longer than what came in: it says more and counts as full. Else prove '..UptoSaid'. A law counts once. -/
mutual
def uptoBulk {H : Type} : DataW H → Nat
  | .lit (.string bytes) => bytes.length + 1
  | .lit _ => 1
  | .nil => 1
  | .ptr d => uptoBulk d + 1
  | .slice elems spare => uptoBulkAll elems + uptoBulkAll spare + 1
  | .agg parts => uptoBulkAll parts + 1
  | .iface _ d => uptoBulk d + 1
  | .map entries => uptoBulkEntries entries + 1
  | .held _ => 1
def uptoBulkAll {H : Type} : List (DataW H) → Nat
  | [] => 0
  | d :: r => uptoBulk d + uptoBulkAll r
def uptoBulkEntries {H : Type} : List (Lit × DataW H) → Nat
  | [] => 0
  | x :: r => uptoBulkEntry x + uptoBulkEntries r
def uptoBulkEntry {H : Type} : Lit × DataW H → Nat
  | (.string bytes, d) => bytes.length + uptoBulk d + 1
  | (_, d) => uptoBulk d + 1
 end
def uptoSmall : (H : Type) → List (DataW H) → Bool := fun _ ds => decide (uptoBulkAll ds ≤ 1048576)
def OpenSpec.upto (s : _root_.Go.ChangeSpec) : _root_.Go.OpenSpec := { _root_.Go.OpenSpec.ofChange s with cond := some uptoSmall }

/-- 'mallowlaw17.SpecialsBetween', WHERE WHAT IT READS IS OF BULK AT MOST 1048576: true; the input reads as it did. -/
def specialsBetweenUptoRow : OpenClaim := { program := "ytheadhficajhmaa", sum := "7c923e1355f8f30abe833238f04ab8e398d6e667aeba0a245dc9d25864fa9a16", func := "mallow/mallowlaw17.SpecialsBetween", spec := "specialsBetween", plainKeys := false, apart := false, narrowed := true }
def SpecialsBetweenUptoSaid : Prop := specialsBetweenUptoRow.holds Try.pinned (OpenSpec.upto specialsBetweenSpec)

/-- 'mallowlaw17.SpecialsPlay', WHERE WHAT IT READS IS OF BULK AT MOST 1048576: true; the input reads as it did. -/
def specialsPlayUptoRow : OpenClaim := { program := "ytheadhficajhmaa", sum := "7c923e1355f8f30abe833238f04ab8e398d6e667aeba0a245dc9d25864fa9a16", func := "mallow/mallowlaw17.SpecialsPlay", spec := "specialsPlay", plainKeys := false, apart := false, narrowed := true }
def SpecialsPlayUptoSaid : Prop := specialsPlayUptoRow.holds Try.pinned (OpenSpec.upto specialsPlaySpec)

/-- 'mallowlaw17.SpecialsApart', WHERE WHAT IT READS IS OF BULK AT MOST 1048576: true; the input reads as it did. -/
def specialsApartUptoRow : OpenClaim := { program := "ytheadhficajhmaa", sum := "7c923e1355f8f30abe833238f04ab8e398d6e667aeba0a245dc9d25864fa9a16", func := "mallow/mallowlaw17.SpecialsApart", spec := "specialsApart", plainKeys := false, apart := false, narrowed := true }
def SpecialsApartUptoSaid : Prop := specialsApartUptoRow.holds Try.pinned (OpenSpec.upto specialsApartSpec)

/-- 'mallowlaw17.SpecialsOnce', WHERE WHAT IT READS IS OF BULK AT MOST 1048576: true; the input reads as it did. -/
def specialsOnceUptoRow : OpenClaim := { program := "ytheadhficajhmaa", sum := "7c923e1355f8f30abe833238f04ab8e398d6e667aeba0a245dc9d25864fa9a16", func := "mallow/mallowlaw17.SpecialsOnce", spec := "specialsOnce", plainKeys := false, apart := false, narrowed := true }
def SpecialsOnceUptoSaid : Prop := specialsOnceUptoRow.holds Try.pinned (OpenSpec.upto specialsOnceSpec)

end Rows
end Go.Proofs.Ytheadhficajhmaa
