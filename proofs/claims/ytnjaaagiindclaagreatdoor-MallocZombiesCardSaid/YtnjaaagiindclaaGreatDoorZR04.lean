/-
  MallocZombies: runs of classes 4 to 6. The program's machine, as fresh makes it.
-/
import Derived.Test.YtnjaaagiindclaaGreatDoorPk22
namespace Go.Proofs.YtnjaaagiindclaaGreatDoor
open Go.RowKit Go.Deep
namespace SX
set_option maxRecDepth 100000
theorem z4_18_1 : (zAll 4 1 18 1).sure (fun _ _ => false) = true := by kernel_rfl
theorem z5_0_3 : (zAll 5 1 0 3).sure (fun _ _ => false) = true := by kernel_rfl
theorem z5_4_3 : (zAll 5 1 4 3).sure (fun _ _ => false) = true := by kernel_rfl
theorem z5_8_3 : (zAll 5 1 8 3).sure (fun _ _ => false) = true := by kernel_rfl
theorem z5_12_3 : (zAll 5 1 12 3).sure (fun _ _ => false) = true := by kernel_rfl
theorem z5_16_2 : (zAll 5 1 16 2).sure (fun _ _ => false) = true := by kernel_rfl
theorem z5_19_0 : (zAll 5 1 19 0).sure (fun _ _ => false) = true := by kernel_rfl
theorem z6_0_4 : (zAll 6 1 0 4).sure (fun _ _ => false) = true := by kernel_rfl
theorem z6_5_4 : (zAll 6 1 5 4).sure (fun _ _ => false) = true := by kernel_rfl
end SX
end Go.Proofs.YtnjaaagiindclaaGreatDoor
