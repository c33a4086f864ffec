/-
  MallocZombies: runs of classes 8 to 10. The program's machine, as fresh makes it.
-/
import Derived.Test.YtnjaaagiindclaaGreatDoorPk22
namespace Go.Proofs.YtnjaaagiindclaaGreatDoor
open Go.RowKit Go.Deep
namespace SX
set_option maxRecDepth 100000
theorem z8_12_4 : (zAll 8 1 12 4).sure (fun _ _ => false) = true := by kernel_rfl
theorem z8_17_2 : (zAll 8 1 17 2).sure (fun _ _ => false) = true := by kernel_rfl
theorem z9_0_6 : (zAll 9 1 0 6).sure (fun _ _ => false) = true := by kernel_rfl
theorem z9_7_5 : (zAll 9 1 7 5).sure (fun _ _ => false) = true := by kernel_rfl
theorem z9_13_4 : (zAll 9 1 13 4).sure (fun _ _ => false) = true := by kernel_rfl
theorem z9_18_1 : (zAll 9 1 18 1).sure (fun _ _ => false) = true := by kernel_rfl
theorem z10_0_6 : (zAll 10 1 0 6).sure (fun _ _ => false) = true := by kernel_rfl
theorem z10_7_5 : (zAll 10 1 7 5).sure (fun _ _ => false) = true := by kernel_rfl
theorem z10_13_4 : (zAll 10 1 13 4).sure (fun _ _ => false) = true := by kernel_rfl
end SX
end Go.Proofs.YtnjaaagiindclaaGreatDoor
