/-
  MallocZombies: runs of classes 6 to 8. The program's machine, as fresh makes it.
-/
import Derived.Test.YtnjaaagiindclaaGreatDoorPk22
namespace Go.Proofs.YtnjaaagiindclaaGreatDoor
open Go.RowKit Go.Deep
namespace SX
set_option maxRecDepth 100000
theorem z6_10_3 : (zAll 6 1 10 3).sure (fun _ _ => false) = true := by kernel_rfl
theorem z6_14_3 : (zAll 6 1 14 3).sure (fun _ _ => false) = true := by kernel_rfl
theorem z6_18_1 : (zAll 6 1 18 1).sure (fun _ _ => false) = true := by kernel_rfl
theorem z7_0_5 : (zAll 7 1 0 5).sure (fun _ _ => false) = true := by kernel_rfl
theorem z7_6_4 : (zAll 7 1 6 4).sure (fun _ _ => false) = true := by kernel_rfl
theorem z7_11_4 : (zAll 7 1 11 4).sure (fun _ _ => false) = true := by kernel_rfl
theorem z7_16_3 : (zAll 7 1 16 3).sure (fun _ _ => false) = true := by kernel_rfl
theorem z8_0_5 : (zAll 8 1 0 5).sure (fun _ _ => false) = true := by kernel_rfl
theorem z8_6_5 : (zAll 8 1 6 5).sure (fun _ _ => false) = true := by kernel_rfl
end SX
end Go.Proofs.YtnjaaagiindclaaGreatDoor
