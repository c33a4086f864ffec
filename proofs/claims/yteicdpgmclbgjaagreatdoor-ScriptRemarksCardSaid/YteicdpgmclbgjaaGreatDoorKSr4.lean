/-
  ScriptRemarks: closed facts of its row: what the program names and reaches.
-/
import Derived.Test.YteicdpgmclbgjaaGreatDoorRows
import Derived.JoinedOf
import Derived.SevenTiedAt
namespace Go.Proofs.YteicdpgmclbgjaaGreatDoor.scriptRemarks
theorem k_mainIs : Tryz.pinned.checked.prog.mainIs = some ((true, "a5f261990a9d355e083d3775a53e76b4b4244fd304dd89dd22d7babd57a0c501").1, (true, "a5f261990a9d355e083d3775a53e76b4b4244fd304dd89dd22d7babd57a0c501").2.toList) := by kernel_rfl
theorem k_looks : true = Tryz.pinned.checked.prog.looks [] := by kernel_rfl
theorem k_stand : ([3, 22].all fun u => !Tryz.prog.wantsStandIn u) = true := by kernel_rfl
end Go.Proofs.YteicdpgmclbgjaaGreatDoor.scriptRemarks
