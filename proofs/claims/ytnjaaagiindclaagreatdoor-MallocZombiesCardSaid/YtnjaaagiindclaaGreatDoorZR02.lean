/-
  MallocZombies: runs of classes 2 to 3. The program's machine, as fresh makes it.
-/
import Derived.Test.YtnjaaagiindclaaGreatDoorPk22
namespace Go.Proofs.YtnjaaagiindclaaGreatDoor
open Go.RowKit Go.Deep
namespace SX
set_option maxRecDepth 100000
theorem z2_16_0 : (zAll 2 1 16 0).sure (fun _ _ => false) = true := by kernel_rfl
theorem z2_17_0 : (zAll 2 1 17 0).sure (fun _ _ => false) = true := by kernel_rfl
theorem z2_18_0 : (zAll 2 1 18 0).sure (fun _ _ => false) = true := by kernel_rfl
theorem z2_19_0 : (zAll 2 1 19 0).sure (fun _ _ => false) = true := by kernel_rfl
theorem z3_0_2 : (zAll 3 1 0 2).sure (fun _ _ => false) = true := by kernel_rfl
theorem z3_3_2 : (zAll 3 1 3 2).sure (fun _ _ => false) = true := by kernel_rfl
theorem z3_6_1 : (zAll 3 1 6 1).sure (fun _ _ => false) = true := by kernel_rfl
theorem z3_8_1 : (zAll 3 1 8 1).sure (fun _ _ => false) = true := by kernel_rfl
theorem z3_10_1 : (zAll 3 1 10 1).sure (fun _ _ => false) = true := by kernel_rfl
theorem z3_12_1 : (zAll 3 1 12 1).sure (fun _ _ => false) = true := by kernel_rfl
end SX
end Go.Proofs.YtnjaaagiindclaaGreatDoor
