/-
  MallocZombies: runs of classes 3 to 4. The program's machine, as fresh makes it.
-/
import Derived.Test.YtnjaaagiindclaaGreatDoorPk22
namespace Go.Proofs.YtnjaaagiindclaaGreatDoor
open Go.RowKit Go.Deep
namespace SX
set_option maxRecDepth 100000
theorem z3_14_1 : (zAll 3 1 14 1).sure (fun _ _ => false) = true := by kernel_rfl
theorem z3_16_1 : (zAll 3 1 16 1).sure (fun _ _ => false) = true := by kernel_rfl
theorem z3_18_1 : (zAll 3 1 18 1).sure (fun _ _ => false) = true := by kernel_rfl
theorem z4_0_2 : (zAll 4 1 0 2).sure (fun _ _ => false) = true := by kernel_rfl
theorem z4_3_2 : (zAll 4 1 3 2).sure (fun _ _ => false) = true := by kernel_rfl
theorem z4_6_2 : (zAll 4 1 6 2).sure (fun _ _ => false) = true := by kernel_rfl
theorem z4_9_2 : (zAll 4 1 9 2).sure (fun _ _ => false) = true := by kernel_rfl
theorem z4_12_2 : (zAll 4 1 12 2).sure (fun _ _ => false) = true := by kernel_rfl
theorem z4_15_2 : (zAll 4 1 15 2).sure (fun _ _ => false) = true := by kernel_rfl
end SX
end Go.Proofs.YtnjaaagiindclaaGreatDoor
