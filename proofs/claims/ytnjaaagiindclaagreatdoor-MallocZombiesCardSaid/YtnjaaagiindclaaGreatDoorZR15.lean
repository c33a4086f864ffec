/-
  MallocZombies: runs of classes 32 to 34. The program's machine, as fresh makes it.
-/
import Derived.Test.YtnjaaagiindclaaGreatDoorPk22
namespace Go.Proofs.YtnjaaagiindclaaGreatDoor
open Go.RowKit Go.Deep
namespace SX
set_option maxRecDepth 100000
theorem z32_14_3 : (zAll 32 1 14 3).sure (fun _ _ => false) = true := by kernel_rfl
theorem z32_18_1 : (zAll 32 1 18 1).sure (fun _ _ => false) = true := by kernel_rfl
theorem z33_0_7 : (zAll 33 1 0 7).sure (fun _ _ => false) = true := by kernel_rfl
theorem z33_8_5 : (zAll 33 1 8 5).sure (fun _ _ => false) = true := by kernel_rfl
theorem z33_14_2 : (zAll 33 1 14 2).sure (fun _ _ => false) = true := by kernel_rfl
theorem z33_17_2 : (zAll 33 1 17 2).sure (fun _ _ => false) = true := by kernel_rfl
theorem z34_0_7 : (zAll 34 1 0 7).sure (fun _ _ => false) = true := by kernel_rfl
theorem z34_8_4 : (zAll 34 1 8 4).sure (fun _ _ => false) = true := by kernel_rfl
theorem z34_13_2 : (zAll 34 1 13 2).sure (fun _ _ => false) = true := by kernel_rfl
end SX
end Go.Proofs.YtnjaaagiindclaaGreatDoor
