/-
  DERIVED. GIVEN WITH THE SEED: THE CARDS: each row of YteicdpgmclbgjaaGreatDoorRows.lean that lists a variable, with what it lists TIED to the program's text (the seventh form; the later family's looks); each row that meets fmt, with fmt's text TOLD by the authors' own Lean function (tested against real Go, not proved from fmt's source: count such statements apart). THE CARD IS WHAT COUNTS. Prove the row's statement (the work); the ties are given (YteicdpgmclbgjaaGreatDoorTie.lean); close each card by the builder's one call (the guide's Derived/Test/ToyasCard.lean, 'card_holds'). Laid BY PROGRAM, IN A SANDBOX (cutbox-door.mjs). By AI agents, Wed Nov 11 2026. No macro, syntax, notation, axiom, sorry.
-/
import Derived.Test.YteicdpgmclbgjaaGreatDoorRows
import GoSem.ClaimSeven
namespace Go.Proofs.YteicdpgmclbgjaaGreatDoor
namespace Rows

/-- THE TIED CARD OF 'mallowlaw26.ScriptRemarks'. -/
def scriptRemarksCard : Claim7 := { stood := { row := scriptRemarksRow, standIns := [], harness := (true, "a5f261990a9d355e083d3775a53e76b4b4244fd304dd89dd22d7babd57a0c501"), looks := true }, kinds := [], alts := [], laidByText := true, laidKinds := [.data, .data, .data, .data, .sentinel, .sentinel, .pinned], laidTests := true, laidLooks := .later }
def ScriptRemarksCardSaid : Prop := Claim7.holds Tryz.pinned (.plain (OpenSpec.ofChange scriptRemarksSpec)) scriptRemarksCard

/-- THE SECOND FORM's CARD OF 'mallowlaw26.ScriptRemarks'. -/
def scriptRemarksUptoCard : Claim7 := { stood := { row := scriptRemarksUptoRow, standIns := [], harness := (true, "a5f261990a9d355e083d3775a53e76b4b4244fd304dd89dd22d7babd57a0c501"), looks := true }, kinds := [], alts := [], laidByText := true, laidKinds := [.data, .data, .data, .data, .sentinel, .sentinel, .pinned], laidTests := true, laidLooks := .later }
def ScriptRemarksUptoCardSaid : Prop := Claim7.holds Tryz.pinned (.plain (OpenSpec.upto scriptRemarksSpec)) scriptRemarksUptoCard
end Rows
end Go.Proofs.YteicdpgmclbgjaaGreatDoor
