/-
  MallocZombies: closed facts of its row: what the program names and reaches.
-/
import Derived.Test.YtnjaaagiindclaaGreatDoorRows
import Derived.JoinedOf
import Derived.SevenTiedAt
namespace Go.Proofs.YtnjaaagiindclaaGreatDoor.mallocZombies
theorem k_wf : Rows.mallocZombiesRow.wf (OpenSpec.ofChange Rows.mallocZombiesSpec) = true := by kernel_rfl
theorem k_laidOut : laidOutB Tryz.pinned.checked.prog = true := by kernel_rfl
theorem k_mapsRowed : mapsRowed Tryz.pinned.checked.prog = true := by kernel_rfl
theorem k_read : Tryz.f5.params.all (Tryz.pinned.checked.prog.readableRec ·) = true := by kernel_rfl
theorem k_wfByText : Rows.mallocZombiesRow.wfByText (OpenSpec.ofChange Rows.mallocZombiesSpec) = true := by kernel_rfl
end Go.Proofs.YtnjaaagiindclaaGreatDoor.mallocZombies
