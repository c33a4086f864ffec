/-
  ScriptRemarks: closed facts of its row: what the program names and reaches.
-/
import Derived.Test.YteicdpgmclbgjaaGreatDoorRows
import Derived.JoinedOf
import Derived.SevenTiedAt
namespace Go.Proofs.YteicdpgmclbgjaaGreatDoor.scriptRemarks
theorem k_goesBy : false = Rows.scriptRemarksRow.goesBy Tryz.pinned.checked.prog := by kernel_rfl
end Go.Proofs.YteicdpgmclbgjaaGreatDoor.scriptRemarks
