/-
  Two blocks of one class: classes 3 to 10.
-/
import Derived.Test.YtnjaaagiindclaaGreatDoorPk12
namespace Go.Proofs.YtnjaaagiindclaaGreatDoor
open Go.RowKit Go.Deep
namespace SX
set_option maxRecDepth 100000
theorem pair3 : (pairT (doS 3 1) ofS 24 341).sure (fun _ _ => false) = true := by kernel_rfl
theorem pair4 : (pairT (doS 4 1) ofS 32 256).sure (fun _ _ => false) = true := by kernel_rfl
theorem pair5 : (pairT (doS 5 1) ofS 48 170).sure (fun _ _ => false) = true := by kernel_rfl
theorem pair6 : (pairT (doS 6 1) ofS 64 128).sure (fun _ _ => false) = true := by kernel_rfl
theorem pair7 : (pairT (doS 7 1) ofS 80 102).sure (fun _ _ => false) = true := by kernel_rfl
theorem pair8 : (pairT (doS 8 1) ofS 96 85).sure (fun _ _ => false) = true := by kernel_rfl
theorem pair9 : (pairT (doS 9 1) ofS 112 73).sure (fun _ _ => false) = true := by kernel_rfl
theorem pair10 : (pairT (doS 10 1) ofS 128 64).sure (fun _ _ => false) = true := by kernel_rfl
end SX
end Go.Proofs.YtnjaaagiindclaaGreatDoor
