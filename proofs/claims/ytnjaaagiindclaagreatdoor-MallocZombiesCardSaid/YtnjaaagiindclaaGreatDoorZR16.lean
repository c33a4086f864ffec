/-
  MallocZombies: runs of classes 34 to 36. The program's machine, as fresh makes it.
-/
import Derived.Test.YtnjaaagiindclaaGreatDoorPk22
namespace Go.Proofs.YtnjaaagiindclaaGreatDoor
open Go.RowKit Go.Deep
namespace SX
set_option maxRecDepth 100000
theorem z34_16_2 : (zAll 34 1 16 2).sure (fun _ _ => false) = true := by kernel_rfl
theorem z34_19_0 : (zAll 34 1 19 0).sure (fun _ _ => false) = true := by kernel_rfl
theorem z35_0_8 : (zAll 35 2 0 8).sure (fun _ _ => false) = true := by kernel_rfl
theorem z35_9_5 : (zAll 35 2 9 5).sure (fun _ _ => false) = true := by kernel_rfl
theorem z35_15_3 : (zAll 35 2 15 3).sure (fun _ _ => false) = true := by kernel_rfl
theorem z35_19_0 : (zAll 35 2 19 0).sure (fun _ _ => false) = true := by kernel_rfl
theorem z36_0_7 : (zAll 36 1 0 7).sure (fun _ _ => false) = true := by kernel_rfl
theorem z36_8_3 : (zAll 36 1 8 3).sure (fun _ _ => false) = true := by kernel_rfl
theorem z36_12_2 : (zAll 36 1 12 2).sure (fun _ _ => false) = true := by kernel_rfl
end SX
end Go.Proofs.YtnjaaagiindclaaGreatDoor
