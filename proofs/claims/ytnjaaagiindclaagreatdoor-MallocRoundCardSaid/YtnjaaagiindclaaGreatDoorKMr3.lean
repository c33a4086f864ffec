/-
  MallocRound: closed facts of its row: what the program names and reaches.
-/
import Derived.Test.YtnjaaagiindclaaGreatDoorRows
import Derived.JoinedOf
import Derived.SevenTiedAt
namespace Go.Proofs.YtnjaaagiindclaaGreatDoor.mallocRound
theorem k_wf : Rows.mallocRoundRow.wf (OpenSpec.ofChange Rows.mallocRoundSpec) = true := by kernel_rfl
theorem k_laidOut : laidOutB Tryz.pinned.checked.prog = true := by kernel_rfl
theorem k_mapsRowed : mapsRowed Tryz.pinned.checked.prog = true := by kernel_rfl
theorem k_read : Tryz.f3.params.all (Tryz.pinned.checked.prog.readableRec ·) = true := by kernel_rfl
theorem k_wfByText : Rows.mallocRoundRow.wfByText (OpenSpec.ofChange Rows.mallocRoundSpec) = true := by kernel_rfl
end Go.Proofs.YtnjaaagiindclaaGreatDoor.mallocRound
