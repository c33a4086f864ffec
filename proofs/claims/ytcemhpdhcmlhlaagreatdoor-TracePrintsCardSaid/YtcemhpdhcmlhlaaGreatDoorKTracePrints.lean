/-
  TracePrints: closed facts of its row: what the program names and reaches.
-/
import Derived.Test.YtcemhpdhcmlhlaaGreatDoorRows
import Derived.JoinedOf
import Derived.SevenTiedAt
namespace Go.Proofs.YtcemhpdhcmlhlaaGreatDoor.tracePrints
theorem k_inPlace : (Rows.tracePrintsRow.inPlace == Tryz.pinned.checked.prog.inPlace 3) = true := by kernel_rfl
theorem k_unfollowed : (Rows.tracePrintsRow.unfollowed == Tryz.pinned.checked.prog.unfollowed 3) = true := by kernel_rfl
theorem k_recurses : (Rows.tracePrintsRow.recurses == Tryz.pinned.checked.prog.recurses 3) = true := by kernel_rfl
theorem k_named : (Rows.tracePrintsRow.named == Tryz.pinned.checked.prog.varsNamed 3) = true := by kernel_rfl
theorem k_wf : Rows.tracePrintsRow.wf (OpenSpec.ofChange Rows.tracePrintsSpec) = true := by kernel_rfl
theorem k_laidOut : laidOutB Tryz.pinned.checked.prog = true := by kernel_rfl
theorem k_mapsRowed : mapsRowed Tryz.pinned.checked.prog = true := by kernel_rfl
theorem k_read : Tryz.f3.params.all (Tryz.pinned.checked.prog.readableRec ·) = true := by kernel_rfl
theorem k_wfByText : Rows.tracePrintsRow.wfByText (OpenSpec.ofChange Rows.tracePrintsSpec) = true := by kernel_rfl
theorem k_mainIs : Tryz.pinned.checked.prog.mainIs = some ((true, "9ff57405da991c5e670e0f189ffb77c0a0d45158f8619051f62ca9e113f8e6ce").1, (true, "9ff57405da991c5e670e0f189ffb77c0a0d45158f8619051f62ca9e113f8e6ce").2.toList) := by kernel_rfl
theorem k_looks : true = Tryz.pinned.checked.prog.looks [] := by kernel_rfl
theorem k_stand : ([22, 9].all fun u => !Tryz.prog.wantsStandIn u) = true := by kernel_rfl
theorem k_goesBy : false = Rows.tracePrintsRow.goesBy Tryz.pinned.checked.prog := by kernel_rfl
end Go.Proofs.YtcemhpdhcmlhlaaGreatDoor.tracePrints
