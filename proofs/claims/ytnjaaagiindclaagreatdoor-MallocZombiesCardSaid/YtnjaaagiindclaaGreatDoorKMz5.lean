/-
  MallocZombies: closed facts of its row: what the program names and reaches.
-/
import Derived.Test.YtnjaaagiindclaaGreatDoorRows
import Derived.JoinedOf
import Derived.SevenTiedAt
namespace Go.Proofs.YtnjaaagiindclaaGreatDoor.mallocZombies
theorem k_goesBy : false = Rows.mallocZombiesRow.goesBy Tryz.pinned.checked.prog := by kernel_rfl
end Go.Proofs.YtnjaaagiindclaaGreatDoor.mallocZombies
