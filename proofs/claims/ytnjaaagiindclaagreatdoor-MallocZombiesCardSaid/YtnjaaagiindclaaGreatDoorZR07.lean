/-
  MallocZombies: runs of classes 10 to 13. The program's machine, as fresh makes it.
-/
import Derived.Test.YtnjaaagiindclaaGreatDoorPk22
namespace Go.Proofs.YtnjaaagiindclaaGreatDoor
open Go.RowKit Go.Deep
namespace SX
set_option maxRecDepth 100000
theorem z10_18_1 : (zAll 10 1 18 1).sure (fun _ _ => false) = true := by kernel_rfl
theorem z11_0_6 : (zAll 11 1 0 6).sure (fun _ _ => false) = true := by kernel_rfl
theorem z11_7_5 : (zAll 11 1 7 5).sure (fun _ _ => false) = true := by kernel_rfl
theorem z11_13_5 : (zAll 11 1 13 5).sure (fun _ _ => false) = true := by kernel_rfl
theorem z11_19_0 : (zAll 11 1 19 0).sure (fun _ _ => false) = true := by kernel_rfl
theorem z12_0_6 : (zAll 12 1 0 6).sure (fun _ _ => false) = true := by kernel_rfl
theorem z12_7_5 : (zAll 12 1 7 5).sure (fun _ _ => false) = true := by kernel_rfl
theorem z12_13_5 : (zAll 12 1 13 5).sure (fun _ _ => false) = true := by kernel_rfl
theorem z12_19_0 : (zAll 12 1 19 0).sure (fun _ _ => false) = true := by kernel_rfl
theorem z13_0_6 : (zAll 13 1 0 6).sure (fun _ _ => false) = true := by kernel_rfl
end SX
end Go.Proofs.YtnjaaagiindclaaGreatDoor
