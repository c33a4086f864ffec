/-
  MallocRound: closed facts of its row: what the program names and reaches.
-/
import Derived.Test.YtnjaaagiindclaaGreatDoorRows
import Derived.JoinedOf
import Derived.SevenTiedAt
namespace Go.Proofs.YtnjaaagiindclaaGreatDoor.mallocRound
theorem k_recurses : (Rows.mallocRoundRow.recurses == Tryz.pinned.checked.prog.recurses 3) = true := by kernel_rfl
theorem k_named : (Rows.mallocRoundRow.named == Tryz.pinned.checked.prog.varsNamed 3) = true := by kernel_rfl
end Go.Proofs.YtnjaaagiindclaaGreatDoor.mallocRound
