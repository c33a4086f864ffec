/-
  MallocZombies: runs of classes 16 to 18. The program's machine, as fresh makes it.
-/
import Derived.Test.YtnjaaagiindclaaGreatDoorPk22
namespace Go.Proofs.YtnjaaagiindclaaGreatDoor
open Go.RowKit Go.Deep
namespace SX
set_option maxRecDepth 100000
theorem z16_0_7 : (zAll 16 1 0 7).sure (fun _ _ => false) = true := by kernel_rfl
theorem z16_8_6 : (zAll 16 1 8 6).sure (fun _ _ => false) = true := by kernel_rfl
theorem z16_15_4 : (zAll 16 1 15 4).sure (fun _ _ => false) = true := by kernel_rfl
theorem z17_0_7 : (zAll 17 1 0 7).sure (fun _ _ => false) = true := by kernel_rfl
theorem z17_8_6 : (zAll 17 1 8 6).sure (fun _ _ => false) = true := by kernel_rfl
theorem z17_15_4 : (zAll 17 1 15 4).sure (fun _ _ => false) = true := by kernel_rfl
theorem z18_0_7 : (zAll 18 1 0 7).sure (fun _ _ => false) = true := by kernel_rfl
theorem z18_8_6 : (zAll 18 1 8 6).sure (fun _ _ => false) = true := by kernel_rfl
theorem z18_15_4 : (zAll 18 1 15 4).sure (fun _ _ => false) = true := by kernel_rfl
end SX
end Go.Proofs.YtnjaaagiindclaaGreatDoor
