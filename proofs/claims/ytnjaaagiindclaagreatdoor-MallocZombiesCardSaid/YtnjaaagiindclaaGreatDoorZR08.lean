/-
  MallocZombies: runs of classes 13 to 15. The program's machine, as fresh makes it.
-/
import Derived.Test.YtnjaaagiindclaaGreatDoorPk22
namespace Go.Proofs.YtnjaaagiindclaaGreatDoor
open Go.RowKit Go.Deep
namespace SX
set_option maxRecDepth 100000
theorem z13_7_6 : (zAll 13 1 7 6).sure (fun _ _ => false) = true := by kernel_rfl
theorem z13_14_5 : (zAll 13 1 14 5).sure (fun _ _ => false) = true := by kernel_rfl
theorem z14_0_7 : (zAll 14 1 0 7).sure (fun _ _ => false) = true := by kernel_rfl
theorem z14_8_6 : (zAll 14 1 8 6).sure (fun _ _ => false) = true := by kernel_rfl
theorem z14_15_4 : (zAll 14 1 15 4).sure (fun _ _ => false) = true := by kernel_rfl
theorem z15_0_7 : (zAll 15 1 0 7).sure (fun _ _ => false) = true := by kernel_rfl
theorem z15_8_6 : (zAll 15 1 8 6).sure (fun _ _ => false) = true := by kernel_rfl
theorem z15_15_4 : (zAll 15 1 15 4).sure (fun _ _ => false) = true := by kernel_rfl
end SX
end Go.Proofs.YtnjaaagiindclaaGreatDoor
