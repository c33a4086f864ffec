/-
  ScriptRemarks: closed facts of its row: what the program names and reaches.
-/
import Derived.Test.YteicdpgmclbgjaaGreatDoorRows
import Derived.JoinedOf
import Derived.SevenTiedAt
namespace Go.Proofs.YteicdpgmclbgjaaGreatDoor.scriptRemarks
theorem k_recurses : (Rows.scriptRemarksRow.recurses == Tryz.pinned.checked.prog.recurses 3) = true := by kernel_rfl
theorem k_named : (Rows.scriptRemarksRow.named == Tryz.pinned.checked.prog.varsNamed 3) = true := by kernel_rfl
end Go.Proofs.YteicdpgmclbgjaaGreatDoor.scriptRemarks
