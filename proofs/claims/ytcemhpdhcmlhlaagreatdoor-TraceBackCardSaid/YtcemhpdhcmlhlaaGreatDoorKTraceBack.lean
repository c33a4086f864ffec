/-
  TraceBack: closed facts of its row: what the program names and reaches.
-/
import Derived.Test.YtcemhpdhcmlhlaaGreatDoorRows
import Derived.JoinedOf
import Derived.SevenTiedAt
namespace Go.Proofs.YtcemhpdhcmlhlaaGreatDoor.traceBack
theorem k_inPlace : (Rows.traceBackRow.inPlace == Tryz.pinned.checked.prog.inPlace 4) = true := by kernel_rfl
theorem k_unfollowed : (Rows.traceBackRow.unfollowed == Tryz.pinned.checked.prog.unfollowed 4) = true := by kernel_rfl
theorem k_recurses : (Rows.traceBackRow.recurses == Tryz.pinned.checked.prog.recurses 4) = true := by kernel_rfl
theorem k_named : (Rows.traceBackRow.named == Tryz.pinned.checked.prog.varsNamed 4) = true := by kernel_rfl
theorem k_wf : Rows.traceBackRow.wf (OpenSpec.ofChange Rows.traceBackSpec) = true := by kernel_rfl
theorem k_laidOut : laidOutB Tryz.pinned.checked.prog = true := by kernel_rfl
theorem k_mapsRowed : mapsRowed Tryz.pinned.checked.prog = true := by kernel_rfl
theorem k_read : Tryz.f4.params.all (Tryz.pinned.checked.prog.readableRec ·) = true := by kernel_rfl
theorem k_wfByText : Rows.traceBackRow.wfByText (OpenSpec.ofChange Rows.traceBackSpec) = true := by kernel_rfl
theorem k_mainIs : Tryz.pinned.checked.prog.mainIs = some ((true, "9ff57405da991c5e670e0f189ffb77c0a0d45158f8619051f62ca9e113f8e6ce").1, (true, "9ff57405da991c5e670e0f189ffb77c0a0d45158f8619051f62ca9e113f8e6ce").2.toList) := by kernel_rfl
theorem k_looks : true = Tryz.pinned.checked.prog.looks [] := by kernel_rfl
theorem k_stand : ([22, 9, 3].all fun u => !Tryz.prog.wantsStandIn u) = true := by kernel_rfl
theorem k_goesBy : false = Rows.traceBackRow.goesBy Tryz.pinned.checked.prog := by kernel_rfl
end Go.Proofs.YtcemhpdhcmlhlaaGreatDoor.traceBack
