/-
  MallocZombies: runs of classes 25 to 27. The program's machine, as fresh makes it.
-/
import Derived.Test.YtnjaaagiindclaaGreatDoorPk22
namespace Go.Proofs.YtnjaaagiindclaaGreatDoor
open Go.RowKit Go.Deep
namespace SX
set_option maxRecDepth 100000
theorem z25_0_8 : (zAll 25 1 0 8).sure (fun _ _ => false) = true := by kernel_rfl
theorem z25_9_7 : (zAll 25 1 9 7).sure (fun _ _ => false) = true := by kernel_rfl
theorem z25_17_2 : (zAll 25 1 17 2).sure (fun _ _ => false) = true := by kernel_rfl
theorem z26_0_8 : (zAll 26 1 0 8).sure (fun _ _ => false) = true := by kernel_rfl
theorem z26_9_6 : (zAll 26 1 9 6).sure (fun _ _ => false) = true := by kernel_rfl
theorem z26_16_3 : (zAll 26 1 16 3).sure (fun _ _ => false) = true := by kernel_rfl
theorem z27_0_8 : (zAll 27 1 0 8).sure (fun _ _ => false) = true := by kernel_rfl
theorem z27_9_6 : (zAll 27 1 9 6).sure (fun _ _ => false) = true := by kernel_rfl
theorem z27_16_3 : (zAll 27 1 16 3).sure (fun _ _ => false) = true := by kernel_rfl
end SX
end Go.Proofs.YtnjaaagiindclaaGreatDoor
