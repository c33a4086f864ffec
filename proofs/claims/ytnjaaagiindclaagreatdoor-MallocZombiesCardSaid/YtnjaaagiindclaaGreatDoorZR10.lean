/-
  MallocZombies: runs of classes 19 to 21. The program's machine, as fresh makes it.
-/
import Derived.Test.YtnjaaagiindclaaGreatDoorPk22
namespace Go.Proofs.YtnjaaagiindclaaGreatDoor
open Go.RowKit Go.Deep
namespace SX
set_option maxRecDepth 100000
theorem z19_0_7 : (zAll 19 1 0 7).sure (fun _ _ => false) = true := by kernel_rfl
theorem z19_8_6 : (zAll 19 1 8 6).sure (fun _ _ => false) = true := by kernel_rfl
theorem z19_15_4 : (zAll 19 1 15 4).sure (fun _ _ => false) = true := by kernel_rfl
theorem z20_0_7 : (zAll 20 1 0 7).sure (fun _ _ => false) = true := by kernel_rfl
theorem z20_8_6 : (zAll 20 1 8 6).sure (fun _ _ => false) = true := by kernel_rfl
theorem z20_15_4 : (zAll 20 1 15 4).sure (fun _ _ => false) = true := by kernel_rfl
theorem z21_0_7 : (zAll 21 1 0 7).sure (fun _ _ => false) = true := by kernel_rfl
theorem z21_8_6 : (zAll 21 1 8 6).sure (fun _ _ => false) = true := by kernel_rfl
theorem z21_15_4 : (zAll 21 1 15 4).sure (fun _ _ => false) = true := by kernel_rfl
end SX
end Go.Proofs.YtnjaaagiindclaaGreatDoor
