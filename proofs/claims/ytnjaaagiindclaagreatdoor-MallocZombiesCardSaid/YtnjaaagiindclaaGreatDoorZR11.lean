/-
  MallocZombies: runs of classes 22 to 24. The program's machine, as fresh makes it.
-/
import Derived.Test.YtnjaaagiindclaaGreatDoorPk22
namespace Go.Proofs.YtnjaaagiindclaaGreatDoor
open Go.RowKit Go.Deep
namespace SX
set_option maxRecDepth 100000
theorem z22_0_8 : (zAll 22 1 0 8).sure (fun _ _ => false) = true := by kernel_rfl
theorem z22_9_6 : (zAll 22 1 9 6).sure (fun _ _ => false) = true := by kernel_rfl
theorem z22_16_3 : (zAll 22 1 16 3).sure (fun _ _ => false) = true := by kernel_rfl
theorem z23_0_8 : (zAll 23 1 0 8).sure (fun _ _ => false) = true := by kernel_rfl
theorem z23_9_6 : (zAll 23 1 9 6).sure (fun _ _ => false) = true := by kernel_rfl
theorem z23_16_3 : (zAll 23 1 16 3).sure (fun _ _ => false) = true := by kernel_rfl
theorem z24_0_8 : (zAll 24 1 0 8).sure (fun _ _ => false) = true := by kernel_rfl
theorem z24_9_7 : (zAll 24 1 9 7).sure (fun _ _ => false) = true := by kernel_rfl
theorem z24_17_2 : (zAll 24 1 17 2).sure (fun _ _ => false) = true := by kernel_rfl
end SX
end Go.Proofs.YtnjaaagiindclaaGreatDoor
