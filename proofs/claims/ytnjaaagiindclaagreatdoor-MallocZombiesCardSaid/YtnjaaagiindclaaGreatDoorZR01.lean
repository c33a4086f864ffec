/-
  MallocZombies: runs of classes 2 to 2. The program's machine, as fresh makes it.
-/
import Derived.Test.YtnjaaagiindclaaGreatDoorPk22
namespace Go.Proofs.YtnjaaagiindclaaGreatDoor
open Go.RowKit Go.Deep
namespace SX
set_option maxRecDepth 100000
theorem z2_0_1 : (zAll 2 1 0 1).sure (fun _ _ => false) = true := by kernel_rfl
theorem z2_2_1 : (zAll 2 1 2 1).sure (fun _ _ => false) = true := by kernel_rfl
theorem z2_4_1 : (zAll 2 1 4 1).sure (fun _ _ => false) = true := by kernel_rfl
theorem z2_6_1 : (zAll 2 1 6 1).sure (fun _ _ => false) = true := by kernel_rfl
theorem z2_8_1 : (zAll 2 1 8 1).sure (fun _ _ => false) = true := by kernel_rfl
theorem z2_10_1 : (zAll 2 1 10 1).sure (fun _ _ => false) = true := by kernel_rfl
theorem z2_12_0 : (zAll 2 1 12 0).sure (fun _ _ => false) = true := by kernel_rfl
theorem z2_13_0 : (zAll 2 1 13 0).sure (fun _ _ => false) = true := by kernel_rfl
theorem z2_14_0 : (zAll 2 1 14 0).sure (fun _ _ => false) = true := by kernel_rfl
theorem z2_15_0 : (zAll 2 1 15 0).sure (fun _ _ => false) = true := by kernel_rfl
end SX
end Go.Proofs.YtnjaaagiindclaaGreatDoor
