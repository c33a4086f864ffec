/-
  MallocZombies: closed facts of its row: what the program names and reaches.
-/
import Derived.Test.YtnjaaagiindclaaGreatDoorRows
import Derived.JoinedOf
import Derived.SevenTiedAt
namespace Go.Proofs.YtnjaaagiindclaaGreatDoor.mallocZombies
theorem k_mainIs : Tryz.pinned.checked.prog.mainIs = some ((true, "33e309a6ec4a7ecfd04bd0692588beb092f5b592c115a52d0de14f1a5b06b93b").1, (true, "33e309a6ec4a7ecfd04bd0692588beb092f5b592c115a52d0de14f1a5b06b93b").2.toList) := by kernel_rfl
theorem k_looks : true = Tryz.pinned.checked.prog.looks [] := by kernel_rfl
theorem k_stand : ([3, 22].all fun u => !Tryz.prog.wantsStandIn u) = true := by kernel_rfl
end Go.Proofs.YtnjaaagiindclaaGreatDoor.mallocZombies
