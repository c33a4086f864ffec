/-
  MallocZombies: runs of classes 38 to 38. The program's machine, as fresh makes it.
-/
import Derived.Test.YtnjaaagiindclaaGreatDoorPk22
namespace Go.Proofs.YtnjaaagiindclaaGreatDoor
open Go.RowKit Go.Deep
namespace SX
set_option maxRecDepth 100000
theorem z38_14_2 : (zAll 38 1 14 2).sure (fun _ _ => false) = true := by kernel_rfl
theorem z38_17_0 : (zAll 38 1 17 0).sure (fun _ _ => false) = true := by kernel_rfl
theorem z38_18_1 : (zAll 38 1 18 1).sure (fun _ _ => false) = true := by kernel_rfl
end SX
end Go.Proofs.YtnjaaagiindclaaGreatDoor
