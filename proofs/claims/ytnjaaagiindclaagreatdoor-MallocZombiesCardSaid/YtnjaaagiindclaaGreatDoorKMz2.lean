/-
  MallocZombies: closed facts of its row: what the program names and reaches.
-/
import Derived.Test.YtnjaaagiindclaaGreatDoorRows
import Derived.JoinedOf
import Derived.SevenTiedAt
namespace Go.Proofs.YtnjaaagiindclaaGreatDoor.mallocZombies
theorem k_recurses : (Rows.mallocZombiesRow.recurses == Tryz.pinned.checked.prog.recurses 5) = true := by kernel_rfl
theorem k_named : (Rows.mallocZombiesRow.named == Tryz.pinned.checked.prog.varsNamed 5) = true := by kernel_rfl
end Go.Proofs.YtnjaaagiindclaaGreatDoor.mallocZombies
