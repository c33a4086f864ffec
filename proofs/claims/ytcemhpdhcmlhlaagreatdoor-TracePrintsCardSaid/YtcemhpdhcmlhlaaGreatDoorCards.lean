/-
  DERIVED. GIVEN WITH THE SEED: THE CARDS: each row of YtcemhpdhcmlhlaaGreatDoorRows.lean that lists a variable, with what it lists TIED to the program's text (the seventh form; the later family's looks); each row that meets fmt, with fmt's text TOLD by the authors' own Lean function (tested against real Go, not proved from fmt's source: count such statements apart). THE CARD IS WHAT COUNTS. Prove the row's statement (the work); the ties are given (YtcemhpdhcmlhlaaGreatDoorTie.lean); close each card by the builder's one call (the guide's Derived/Test/ToyasCard.lean, 'card_holds'). Laid BY PROGRAM, IN A SANDBOX (cutbox-door.mjs). By AI agents, Wed Nov 11 2026. No macro, syntax, notation, axiom, sorry.
-/
import Derived.Test.YtcemhpdhcmlhlaaGreatDoorRows
import GoSem.ClaimSeven
namespace Go.Proofs.YtcemhpdhcmlhlaaGreatDoor
namespace Rows

/-- THE TIED CARD OF 'mallowlaw28.TracePrints'. -/
def tracePrintsCard : Claim7 := { stood := { row := tracePrintsRow, standIns := [], harness := (true, "9ff57405da991c5e670e0f189ffb77c0a0d45158f8619051f62ca9e113f8e6ce"), looks := true }, kinds := [], alts := [], laidByText := true, laidKinds := [.data, .data, .data, .data, .sentinel, .sentinel, .listed, .data, .pinned], laidTests := true, laidLooks := .later }
def TracePrintsCardSaid : Prop := Claim7.holds Tryz.pinned (.plain (OpenSpec.ofChange tracePrintsSpec)) tracePrintsCard

/-- THE TIED CARD OF 'mallowlaw28.TraceBack'. -/
def traceBackCard : Claim7 := { stood := { row := traceBackRow, standIns := [], harness := (true, "9ff57405da991c5e670e0f189ffb77c0a0d45158f8619051f62ca9e113f8e6ce"), looks := true }, kinds := [], alts := [], laidByText := true, laidKinds := [.data, .data, .data, .data, .sentinel, .sentinel, .listed, .data, .pinned], laidTests := true, laidLooks := .later }
def TraceBackCardSaid : Prop := Claim7.holds Tryz.pinned (.plain (OpenSpec.ofChange traceBackSpec)) traceBackCard

/-- THE SECOND FORM's CARD OF 'mallowlaw28.TracePrints'. -/
def tracePrintsUptoCard : Claim7 := { stood := { row := tracePrintsUptoRow, standIns := [], harness := (true, "9ff57405da991c5e670e0f189ffb77c0a0d45158f8619051f62ca9e113f8e6ce"), looks := true }, kinds := [], alts := [], laidByText := true, laidKinds := [.data, .data, .data, .data, .sentinel, .sentinel, .listed, .data, .pinned], laidTests := true, laidLooks := .later }
def TracePrintsUptoCardSaid : Prop := Claim7.holds Tryz.pinned (.plain (OpenSpec.upto tracePrintsSpec)) tracePrintsUptoCard

/-- THE SECOND FORM's CARD OF 'mallowlaw28.TraceBack'. -/
def traceBackUptoCard : Claim7 := { stood := { row := traceBackUptoRow, standIns := [], harness := (true, "9ff57405da991c5e670e0f189ffb77c0a0d45158f8619051f62ca9e113f8e6ce"), looks := true }, kinds := [], alts := [], laidByText := true, laidKinds := [.data, .data, .data, .data, .sentinel, .sentinel, .listed, .data, .pinned], laidTests := true, laidLooks := .later }
def TraceBackUptoCardSaid : Prop := Claim7.holds Tryz.pinned (.plain (OpenSpec.upto traceBackSpec)) traceBackUptoCard
end Rows
end Go.Proofs.YtcemhpdhcmlhlaaGreatDoor
