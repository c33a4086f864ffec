/-
  MallocZombies: runs of classes 36 to 38. The program's machine, as fresh makes it.
-/
import Derived.Test.YtnjaaagiindclaaGreatDoorPk22
namespace Go.Proofs.YtnjaaagiindclaaGreatDoor
open Go.RowKit Go.Deep
namespace SX
set_option maxRecDepth 100000
theorem z36_15_1 : (zAll 36 1 15 1).sure (fun _ _ => false) = true := by kernel_rfl
theorem z36_17_2 : (zAll 36 1 17 2).sure (fun _ _ => false) = true := by kernel_rfl
theorem z37_0_8 : (zAll 37 2 0 8).sure (fun _ _ => false) = true := by kernel_rfl
theorem z37_9_4 : (zAll 37 2 9 4).sure (fun _ _ => false) = true := by kernel_rfl
theorem z37_14_3 : (zAll 37 2 14 3).sure (fun _ _ => false) = true := by kernel_rfl
theorem z37_18_1 : (zAll 37 2 18 1).sure (fun _ _ => false) = true := by kernel_rfl
theorem z38_0_7 : (zAll 38 1 0 7).sure (fun _ _ => false) = true := by kernel_rfl
theorem z38_8_3 : (zAll 38 1 8 3).sure (fun _ _ => false) = true := by kernel_rfl
theorem z38_12_1 : (zAll 38 1 12 1).sure (fun _ _ => false) = true := by kernel_rfl
end SX
end Go.Proofs.YtnjaaagiindclaaGreatDoor
