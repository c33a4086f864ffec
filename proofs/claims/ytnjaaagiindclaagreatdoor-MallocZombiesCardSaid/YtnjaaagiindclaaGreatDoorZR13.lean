/-
  MallocZombies: runs of classes 28 to 30. The program's machine, as fresh makes it.
-/
import Derived.Test.YtnjaaagiindclaaGreatDoorPk22
namespace Go.Proofs.YtnjaaagiindclaaGreatDoor
open Go.RowKit Go.Deep
namespace SX
set_option maxRecDepth 100000
theorem z28_0_8 : (zAll 28 1 0 8).sure (fun _ _ => false) = true := by kernel_rfl
theorem z28_9_5 : (zAll 28 1 9 5).sure (fun _ _ => false) = true := by kernel_rfl
theorem z28_15_3 : (zAll 28 1 15 3).sure (fun _ _ => false) = true := by kernel_rfl
theorem z28_19_0 : (zAll 28 1 19 0).sure (fun _ _ => false) = true := by kernel_rfl
theorem z29_0_8 : (zAll 29 1 0 8).sure (fun _ _ => false) = true := by kernel_rfl
theorem z29_9_5 : (zAll 29 1 9 5).sure (fun _ _ => false) = true := by kernel_rfl
theorem z29_15_3 : (zAll 29 1 15 3).sure (fun _ _ => false) = true := by kernel_rfl
theorem z29_19_0 : (zAll 29 1 19 0).sure (fun _ _ => false) = true := by kernel_rfl
theorem z30_0_9 : (zAll 30 1 0 9).sure (fun _ _ => false) = true := by kernel_rfl
end SX
end Go.Proofs.YtnjaaagiindclaaGreatDoor
