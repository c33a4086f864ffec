/-
  ScriptRemarks: closed facts of its row: what the program names and reaches.
-/
import Derived.Test.YteicdpgmclbgjaaGreatDoorRows
import Derived.JoinedOf
import Derived.SevenTiedAt
namespace Go.Proofs.YteicdpgmclbgjaaGreatDoor.scriptRemarks
theorem k_inPlace : (Rows.scriptRemarksRow.inPlace == Tryz.pinned.checked.prog.inPlace 3) = true := by kernel_rfl
theorem k_unfollowed : (Rows.scriptRemarksRow.unfollowed == Tryz.pinned.checked.prog.unfollowed 3) = true := by kernel_rfl
end Go.Proofs.YteicdpgmclbgjaaGreatDoor.scriptRemarks
