/-
  ScriptRemarks: closed facts of its row: what the program names and reaches.
-/
import Derived.Test.YteicdpgmclbgjaaGreatDoorRows
import Derived.JoinedOf
import Derived.SevenTiedAt
namespace Go.Proofs.YteicdpgmclbgjaaGreatDoor.scriptRemarks
theorem k_wf : Rows.scriptRemarksRow.wf (OpenSpec.ofChange Rows.scriptRemarksSpec) = true := by kernel_rfl
theorem k_laidOut : laidOutB Tryz.pinned.checked.prog = true := by kernel_rfl
theorem k_mapsRowed : mapsRowed Tryz.pinned.checked.prog = true := by kernel_rfl
theorem k_read : Tryz.f3.params.all (Tryz.pinned.checked.prog.readableRec ·) = true := by kernel_rfl
theorem k_wfByText : Rows.scriptRemarksRow.wfByText (OpenSpec.ofChange Rows.scriptRemarksSpec) = true := by kernel_rfl
end Go.Proofs.YteicdpgmclbgjaaGreatDoor.scriptRemarks
