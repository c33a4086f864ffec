/-
  MallocZombies: runs of classes 30 to 32. The program's machine, as fresh makes it.
-/
import Derived.Test.YtnjaaagiindclaaGreatDoorPk22
namespace Go.Proofs.YtnjaaagiindclaaGreatDoor
open Go.RowKit Go.Deep
namespace SX
set_option maxRecDepth 100000
theorem z30_10_3 : (zAll 30 1 10 3).sure (fun _ _ => false) = true := by kernel_rfl
theorem z30_14_3 : (zAll 30 1 14 3).sure (fun _ _ => false) = true := by kernel_rfl
theorem z30_18_1 : (zAll 30 1 18 1).sure (fun _ _ => false) = true := by kernel_rfl
theorem z31_0_8 : (zAll 31 1 0 8).sure (fun _ _ => false) = true := by kernel_rfl
theorem z31_9_4 : (zAll 31 1 9 4).sure (fun _ _ => false) = true := by kernel_rfl
theorem z31_14_3 : (zAll 31 1 14 3).sure (fun _ _ => false) = true := by kernel_rfl
theorem z31_18_1 : (zAll 31 1 18 1).sure (fun _ _ => false) = true := by kernel_rfl
theorem z32_0_8 : (zAll 32 1 0 8).sure (fun _ _ => false) = true := by kernel_rfl
theorem z32_9_4 : (zAll 32 1 9 4).sure (fun _ _ => false) = true := by kernel_rfl
end SX
end Go.Proofs.YtnjaaagiindclaaGreatDoor
