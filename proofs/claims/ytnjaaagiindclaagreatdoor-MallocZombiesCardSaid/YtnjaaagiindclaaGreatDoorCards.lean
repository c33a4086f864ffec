/-
  DERIVED. GIVEN WITH THE SEED: THE CARDS: each row of YtnjaaagiindclaaGreatDoorRows.lean that lists a variable, with what it lists TIED to the program's text (the seventh form; the later family's looks); each row that meets fmt, with fmt's text TOLD by the authors' own Lean function (tested against real Go, not proved from fmt's source: count such statements apart). THE CARD IS WHAT COUNTS. Prove the row's statement (the work); the ties are given (YtnjaaagiindclaaGreatDoorTie.lean); close each card by the builder's one call (the guide's Derived/Test/ToyasCard.lean, 'card_holds'). Laid BY PROGRAM, IN A SANDBOX (cutbox-door.mjs). By AI agents, Wed Nov 11 2026. No macro, syntax, notation, axiom, sorry.
-/
import Derived.Test.YtnjaaagiindclaaGreatDoorRows
import GoSem.ClaimSeven
namespace Go.Proofs.YtnjaaagiindclaaGreatDoor
namespace Rows

/-- THE TIED CARD OF 'mallowlaw23.MallocRound'. -/
def mallocRoundCard : Claim7 := { stood := { row := mallocRoundRow, standIns := [], harness := (true, "33e309a6ec4a7ecfd04bd0692588beb092f5b592c115a52d0de14f1a5b06b93b"), looks := true }, kinds := [], alts := [], laidByText := true, laidKinds := [.data], laidTests := true, laidLooks := .later }
def MallocRoundCardSaid : Prop := Claim7.holds Tryz.pinned (.plain (OpenSpec.ofChange mallocRoundSpec)) mallocRoundCard

/-- THE TIED CARD OF 'mallowlaw23.MallocSpecials'. -/
def mallocSpecialsCard : Claim7 := { stood := { row := mallocSpecialsRow, standIns := [], harness := (true, "33e309a6ec4a7ecfd04bd0692588beb092f5b592c115a52d0de14f1a5b06b93b"), looks := true }, kinds := [], alts := [], laidByText := true, laidKinds := [.data], laidTests := true, laidLooks := .later }
def MallocSpecialsCardSaid : Prop := Claim7.holds Tryz.pinned (.plain (OpenSpec.ofChange mallocSpecialsSpec)) mallocSpecialsCard

/-- THE TIED CARD OF 'mallowlaw23.MallocZombies'. -/
def mallocZombiesCard : Claim7 := { stood := { row := mallocZombiesRow, standIns := [], harness := (true, "33e309a6ec4a7ecfd04bd0692588beb092f5b592c115a52d0de14f1a5b06b93b"), looks := true }, kinds := [], alts := [], laidByText := true, laidKinds := [.data], laidTests := true, laidLooks := .later }
def MallocZombiesCardSaid : Prop := Claim7.holds Tryz.pinned (.plain (OpenSpec.ofChange mallocZombiesSpec)) mallocZombiesCard

/-- THE TIED CARD OF 'mallowlaw23.MallocErrors'. -/
def mallocErrorsCard : Claim7 := { stood := { row := mallocErrorsRow, standIns := [], harness := (true, "33e309a6ec4a7ecfd04bd0692588beb092f5b592c115a52d0de14f1a5b06b93b"), looks := true }, kinds := [], alts := [], laidByText := true, laidKinds := [.data], laidTests := true, laidLooks := .later }
def MallocErrorsCardSaid : Prop := Claim7.holds Tryz.pinned (.plain (OpenSpec.ofChange mallocErrorsSpec)) mallocErrorsCard

/-- THE TIED CARD OF 'mallowlaw23.MallocTiny'. -/
def mallocTinyCard : Claim7 := { stood := { row := mallocTinyRow, standIns := [], harness := (true, "33e309a6ec4a7ecfd04bd0692588beb092f5b592c115a52d0de14f1a5b06b93b"), looks := true }, kinds := [], alts := [], laidByText := true, laidKinds := [.data], laidTests := true, laidLooks := .later }
def MallocTinyCardSaid : Prop := Claim7.holds Tryz.pinned (.plain (OpenSpec.ofChange mallocTinySpec)) mallocTinyCard

/-- THE TIED CARD OF 'mallowlaw23.MallocZeroes'. -/
def mallocZeroesCard : Claim7 := { stood := { row := mallocZeroesRow, standIns := [], harness := (true, "33e309a6ec4a7ecfd04bd0692588beb092f5b592c115a52d0de14f1a5b06b93b"), looks := true }, kinds := [], alts := [], laidByText := true, laidKinds := [.data], laidTests := true, laidLooks := .later }
def MallocZeroesCardSaid : Prop := Claim7.holds Tryz.pinned (.plain (OpenSpec.ofChange mallocZeroesSpec)) mallocZeroesCard

/-- THE TIED CARD OF 'mallowlaw23.MallocMasks'. -/
def mallocMasksCard : Claim7 := { stood := { row := mallocMasksRow, standIns := [], harness := (true, "33e309a6ec4a7ecfd04bd0692588beb092f5b592c115a52d0de14f1a5b06b93b"), looks := true }, kinds := [], alts := [], laidByText := true, laidKinds := [.data], laidTests := true, laidLooks := .later }
def MallocMasksCardSaid : Prop := Claim7.holds Tryz.pinned (.plain (OpenSpec.ofChange mallocMasksSpec)) mallocMasksCard

/-- THE SECOND FORM's CARD OF 'mallowlaw23.MallocRound'. -/
def mallocRoundUptoCard : Claim7 := { stood := { row := mallocRoundUptoRow, standIns := [], harness := (true, "33e309a6ec4a7ecfd04bd0692588beb092f5b592c115a52d0de14f1a5b06b93b"), looks := true }, kinds := [], alts := [], laidByText := true, laidKinds := [.data], laidTests := true, laidLooks := .later }
def MallocRoundUptoCardSaid : Prop := Claim7.holds Tryz.pinned (.plain (OpenSpec.upto mallocRoundSpec)) mallocRoundUptoCard

/-- THE SECOND FORM's CARD OF 'mallowlaw23.MallocSpecials'. -/
def mallocSpecialsUptoCard : Claim7 := { stood := { row := mallocSpecialsUptoRow, standIns := [], harness := (true, "33e309a6ec4a7ecfd04bd0692588beb092f5b592c115a52d0de14f1a5b06b93b"), looks := true }, kinds := [], alts := [], laidByText := true, laidKinds := [.data], laidTests := true, laidLooks := .later }
def MallocSpecialsUptoCardSaid : Prop := Claim7.holds Tryz.pinned (.plain (OpenSpec.upto mallocSpecialsSpec)) mallocSpecialsUptoCard

/-- THE SECOND FORM's CARD OF 'mallowlaw23.MallocZombies'. -/
def mallocZombiesUptoCard : Claim7 := { stood := { row := mallocZombiesUptoRow, standIns := [], harness := (true, "33e309a6ec4a7ecfd04bd0692588beb092f5b592c115a52d0de14f1a5b06b93b"), looks := true }, kinds := [], alts := [], laidByText := true, laidKinds := [.data], laidTests := true, laidLooks := .later }
def MallocZombiesUptoCardSaid : Prop := Claim7.holds Tryz.pinned (.plain (OpenSpec.upto mallocZombiesSpec)) mallocZombiesUptoCard

/-- THE SECOND FORM's CARD OF 'mallowlaw23.MallocErrors'. -/
def mallocErrorsUptoCard : Claim7 := { stood := { row := mallocErrorsUptoRow, standIns := [], harness := (true, "33e309a6ec4a7ecfd04bd0692588beb092f5b592c115a52d0de14f1a5b06b93b"), looks := true }, kinds := [], alts := [], laidByText := true, laidKinds := [.data], laidTests := true, laidLooks := .later }
def MallocErrorsUptoCardSaid : Prop := Claim7.holds Tryz.pinned (.plain (OpenSpec.upto mallocErrorsSpec)) mallocErrorsUptoCard

/-- THE SECOND FORM's CARD OF 'mallowlaw23.MallocTiny'. -/
def mallocTinyUptoCard : Claim7 := { stood := { row := mallocTinyUptoRow, standIns := [], harness := (true, "33e309a6ec4a7ecfd04bd0692588beb092f5b592c115a52d0de14f1a5b06b93b"), looks := true }, kinds := [], alts := [], laidByText := true, laidKinds := [.data], laidTests := true, laidLooks := .later }
def MallocTinyUptoCardSaid : Prop := Claim7.holds Tryz.pinned (.plain (OpenSpec.upto mallocTinySpec)) mallocTinyUptoCard

/-- THE SECOND FORM's CARD OF 'mallowlaw23.MallocZeroes'. -/
def mallocZeroesUptoCard : Claim7 := { stood := { row := mallocZeroesUptoRow, standIns := [], harness := (true, "33e309a6ec4a7ecfd04bd0692588beb092f5b592c115a52d0de14f1a5b06b93b"), looks := true }, kinds := [], alts := [], laidByText := true, laidKinds := [.data], laidTests := true, laidLooks := .later }
def MallocZeroesUptoCardSaid : Prop := Claim7.holds Tryz.pinned (.plain (OpenSpec.upto mallocZeroesSpec)) mallocZeroesUptoCard

/-- THE SECOND FORM's CARD OF 'mallowlaw23.MallocMasks'. -/
def mallocMasksUptoCard : Claim7 := { stood := { row := mallocMasksUptoRow, standIns := [], harness := (true, "33e309a6ec4a7ecfd04bd0692588beb092f5b592c115a52d0de14f1a5b06b93b"), looks := true }, kinds := [], alts := [], laidByText := true, laidKinds := [.data], laidTests := true, laidLooks := .later }
def MallocMasksUptoCardSaid : Prop := Claim7.holds Tryz.pinned (.plain (OpenSpec.upto mallocMasksSpec)) mallocMasksUptoCard
end Rows
end Go.Proofs.YtnjaaagiindclaaGreatDoor
