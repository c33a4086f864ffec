/-
  MallocRound: closed facts of its row: what the program names and reaches.
-/
import Derived.Test.YtnjaaagiindclaaGreatDoorRows
import Derived.JoinedOf
import Derived.SevenTiedAt
namespace Go.Proofs.YtnjaaagiindclaaGreatDoor.mallocRound
theorem k_inPlace : (Rows.mallocRoundRow.inPlace == Tryz.pinned.checked.prog.inPlace 3) = true := by kernel_rfl
theorem k_unfollowed : (Rows.mallocRoundRow.unfollowed == Tryz.pinned.checked.prog.unfollowed 3) = true := by kernel_rfl
end Go.Proofs.YtnjaaagiindclaaGreatDoor.mallocRound
