/-
  No cell of these rows narrows 'for every input' (looked for: loops, veiled, ifaces, maps, wideKeys, modest, calm, conditions, laid).
  DERIVED. THE GIVEN ROWS OF THIS SEAT. 4 by the template 'for every input the law returns true; each argument reads behind the call as it read before'; 0 by the template 'total and deterministic' (their statements: YtanaicjeheacoaaTotals.lean).
  GIVEN WITH THE SEED: the statements are not yours to turn. If you find one false, say at which input.
  Laid BY PROGRAM, IN A SANDBOX (cutbox-rows.mjs): the forced cells as the released guide's own fill.sh prints them over the translation 73454708730e2486… (all of the seat's roots in one cut). By AI agents, Wed Nov 11 2026. No macro, syntax, notation, axiom, sorry.
-/
import Derived.Test.YtanaicjeheacoaaChecked
import GoSem.Claim
import GoSem.ClaimJoined
import GoSem.ClaimMapViews
import Derived.JoinedTies
import Derived.KernelRfl
namespace Go.Proofs.Ytanaicjeheacoaa
/- THE CELL 'sum', in the pinned program and in every row, IS THE sha256 OF THE DUMP (.gsa) THAT YtanaicjeheacoaaProg.lean LOADS. Nothing in Lean hashes anything: it is a label: what it is worth is what the hold of that sum in a sandbox is worth. -/
noncomputable def Try.pinned : Pinned := { name := "ytanaicjeheacoaa", sum := "73454708730e24860b86d2f6f1756a03628507328a1b39b33af2cf60125c6d3b", checked := Try.checked }
namespace Rows
def none {H : Type} : Left H := { results := [], args := [] }

/-- 'mallowlaw14.SetsKinds': WHATEVER THE INPUT: true; the input reads as it did. -/
def setsKindsSpec : ChangeSpec := { name := "setsKinds", fn := fun _ => fun
  | [d1, d2, d3, d4, d5] => { results := [.lit (.bool true)], args := [d1, d2, d3, d4, d5] }
  | _ => none }
def setsKindsRow : OpenClaim := { program := "ytanaicjeheacoaa", sum := "73454708730e24860b86d2f6f1756a03628507328a1b39b33af2cf60125c6d3b", func := "mallow/mallowlaw14.SetsKinds", spec := "setsKinds", unfollowed := true, recurses := true, plainKeys := false, apart := false }
def SetsKindsSaid : Prop := setsKindsRow.holds Try.pinned (OpenSpec.ofChange setsKindsSpec)

/-- ITS FALSE NEIGHBOUR: 'it returns false'. Refute it at one input. -/
def setsKindsWrong : ChangeSpec := { name := "setsKinds", fn := fun _ => fun
  | [d1, d2, d3, d4, d5] => { results := [.lit (.bool false)], args := [d1, d2, d3, d4, d5] }
  | _ => none }
def SetsKindsWrongFalsely : Prop := setsKindsRow.holds Try.pinned (OpenSpec.ofChange setsKindsWrong)

/-- 'mallowlaw14.SetsPlay': WHATEVER THE INPUT: true; the input reads as it did. -/
def setsPlaySpec : ChangeSpec := { name := "setsPlay", fn := fun _ => fun
  | [d] => { results := [.lit (.bool true)], args := [d] }
  | _ => none }
def setsPlayRow : OpenClaim := { program := "ytanaicjeheacoaa", sum := "73454708730e24860b86d2f6f1756a03628507328a1b39b33af2cf60125c6d3b", func := "mallow/mallowlaw14.SetsPlay", spec := "setsPlay", unfollowed := true, recurses := true, plainKeys := false, apart := false }
def SetsPlaySaid : Prop := setsPlayRow.holds Try.pinned (OpenSpec.ofChange setsPlaySpec)

/-- ITS FALSE NEIGHBOUR: 'it returns false'. Refute it at one input. -/
def setsPlayWrong : ChangeSpec := { name := "setsPlay", fn := fun _ => fun
  | [d] => { results := [.lit (.bool false)], args := [d] }
  | _ => none }
def SetsPlayWrongFalsely : Prop := setsPlayRow.holds Try.pinned (OpenSpec.ofChange setsPlayWrong)

/-- 'mallowlaw14.SetsApart': WHATEVER THE INPUT: true; the input reads as it did. -/
def setsApartSpec : ChangeSpec := { name := "setsApart", fn := fun _ => fun
  | [d1, d2] => { results := [.lit (.bool true)], args := [d1, d2] }
  | _ => none }
def setsApartRow : OpenClaim := { program := "ytanaicjeheacoaa", sum := "73454708730e24860b86d2f6f1756a03628507328a1b39b33af2cf60125c6d3b", func := "mallow/mallowlaw14.SetsApart", spec := "setsApart", unfollowed := true, recurses := true, plainKeys := false, apart := false }
def SetsApartSaid : Prop := setsApartRow.holds Try.pinned (OpenSpec.ofChange setsApartSpec)

/-- ITS FALSE NEIGHBOUR: 'it returns false'. Refute it at one input. -/
def setsApartWrong : ChangeSpec := { name := "setsApart", fn := fun _ => fun
  | [d1, d2] => { results := [.lit (.bool false)], args := [d1, d2] }
  | _ => none }
def SetsApartWrongFalsely : Prop := setsApartRow.holds Try.pinned (OpenSpec.ofChange setsApartWrong)

/-- 'mallowlaw14.SetsOnce': WHATEVER THE INPUT: true; the input reads as it did. -/
def setsOnceSpec : ChangeSpec := { name := "setsOnce", fn := fun _ => fun
  | [d1, d2] => { results := [.lit (.bool true)], args := [d1, d2] }
  | _ => none }
def setsOnceRow : OpenClaim := { program := "ytanaicjeheacoaa", sum := "73454708730e24860b86d2f6f1756a03628507328a1b39b33af2cf60125c6d3b", func := "mallow/mallowlaw14.SetsOnce", spec := "setsOnce", unfollowed := true, recurses := true, plainKeys := false, apart := false }
def SetsOnceSaid : Prop := setsOnceRow.holds Try.pinned (OpenSpec.ofChange setsOnceSpec)

/-- ITS FALSE NEIGHBOUR: 'it returns false'. Refute it at one input. -/
def setsOnceWrong : ChangeSpec := { name := "setsOnce", fn := fun _ => fun
  | [d1, d2] => { results := [.lit (.bool false)], args := [d1, d2] }
  | _ => none }
def SetsOnceWrongFalsely : Prop := setsOnceRow.holds Try.pinned (OpenSpec.ofChange setsOnceWrong)

/- THE SECOND FORM. 'bulk': how many values and letters a reading holds, each counted each time it is reached (what is shared counts as often as it is met; a slice's spare places count too). A statement '..UptoSaid' is the law's where the arguments, and the package variables that the reading takes, are together of bulk at most 1048576: NARROWER than '..Said'. Prove '..Said' where nothing that the law and all that it calls make is longer than what came in: it says more and counts as full. Else prove '..UptoSaid'. A law counts once. -/
mutual
def uptoBulk {H : Type} : DataW H → Nat
  | .lit (.string bytes) => bytes.length + 1
  | .lit _ => 1
  | .nil => 1
  | .ptr d => uptoBulk d + 1
  | .slice elems spare => uptoBulkAll elems + uptoBulkAll spare + 1
  | .agg parts => uptoBulkAll parts + 1
  | .iface _ d => uptoBulk d + 1
  | .map entries => uptoBulkEntries entries + 1
  | .held _ => 1
def uptoBulkAll {H : Type} : List (DataW H) → Nat
  | [] => 0
  | d :: r => uptoBulk d + uptoBulkAll r
def uptoBulkEntries {H : Type} : List (Lit × DataW H) → Nat
  | [] => 0
  | x :: r => uptoBulkEntry x + uptoBulkEntries r
def uptoBulkEntry {H : Type} : Lit × DataW H → Nat
  | (.string bytes, d) => bytes.length + uptoBulk d + 1
  | (_, d) => uptoBulk d + 1
 end
def uptoSmall : (H : Type) → List (DataW H) → Bool := fun _ ds => decide (uptoBulkAll ds ≤ 1048576)
def OpenSpec.upto (s : _root_.Go.ChangeSpec) : _root_.Go.OpenSpec := { _root_.Go.OpenSpec.ofChange s with cond := some uptoSmall }

/-- 'mallowlaw14.SetsKinds', WHERE WHAT IT READS IS OF BULK AT MOST 1048576: true; the input reads as it did. -/
def setsKindsUptoRow : OpenClaim := { program := "ytanaicjeheacoaa", sum := "73454708730e24860b86d2f6f1756a03628507328a1b39b33af2cf60125c6d3b", func := "mallow/mallowlaw14.SetsKinds", spec := "setsKinds", unfollowed := true, recurses := true, plainKeys := false, apart := false, narrowed := true }
def SetsKindsUptoSaid : Prop := setsKindsUptoRow.holds Try.pinned (OpenSpec.upto setsKindsSpec)

/-- 'mallowlaw14.SetsPlay', WHERE WHAT IT READS IS OF BULK AT MOST 1048576: true; the input reads as it did. -/
def setsPlayUptoRow : OpenClaim := { program := "ytanaicjeheacoaa", sum := "73454708730e24860b86d2f6f1756a03628507328a1b39b33af2cf60125c6d3b", func := "mallow/mallowlaw14.SetsPlay", spec := "setsPlay", unfollowed := true, recurses := true, plainKeys := false, apart := false, narrowed := true }
def SetsPlayUptoSaid : Prop := setsPlayUptoRow.holds Try.pinned (OpenSpec.upto setsPlaySpec)

/-- 'mallowlaw14.SetsApart', WHERE WHAT IT READS IS OF BULK AT MOST 1048576: true; the input reads as it did. -/
def setsApartUptoRow : OpenClaim := { program := "ytanaicjeheacoaa", sum := "73454708730e24860b86d2f6f1756a03628507328a1b39b33af2cf60125c6d3b", func := "mallow/mallowlaw14.SetsApart", spec := "setsApart", unfollowed := true, recurses := true, plainKeys := false, apart := false, narrowed := true }
def SetsApartUptoSaid : Prop := setsApartUptoRow.holds Try.pinned (OpenSpec.upto setsApartSpec)

/-- 'mallowlaw14.SetsOnce', WHERE WHAT IT READS IS OF BULK AT MOST 1048576: true; the input reads as it did. -/
def setsOnceUptoRow : OpenClaim := { program := "ytanaicjeheacoaa", sum := "73454708730e24860b86d2f6f1756a03628507328a1b39b33af2cf60125c6d3b", func := "mallow/mallowlaw14.SetsOnce", spec := "setsOnce", unfollowed := true, recurses := true, plainKeys := false, apart := false, narrowed := true }
def SetsOnceUptoSaid : Prop := setsOnceUptoRow.holds Try.pinned (OpenSpec.upto setsOnceSpec)

end Rows
end Go.Proofs.Ytanaicjeheacoaa
