/-
  Two blocks of one class: classes 51 to 58.
-/
import Derived.Test.YtnjaaagiindclaaGreatDoorPk12
namespace Go.Proofs.YtnjaaagiindclaaGreatDoor
open Go.RowKit Go.Deep
namespace SX
set_option maxRecDepth 100000
theorem pair51 : (pairT (doS 51 1) ofS 8192 1).sure (fun _ _ => false) = true := by kernel_rfl
theorem pair52 : (pairT (doS 52 7) ofS 9472 6).sure (fun _ _ => false) = true := by kernel_rfl
theorem pair53 : (pairT (doS 53 6) ofS 9728 5).sure (fun _ _ => false) = true := by kernel_rfl
theorem pair54 : (pairT (doS 54 5) ofS 10240 4).sure (fun _ _ => false) = true := by kernel_rfl
theorem pair55 : (pairT (doS 55 4) ofS 10880 3).sure (fun _ _ => false) = true := by kernel_rfl
theorem pair56 : (pairT (doS 56 3) ofS 12288 2).sure (fun _ _ => false) = true := by kernel_rfl
theorem pair57 : (pairT (doS 57 5) ofS 13568 3).sure (fun _ _ => false) = true := by kernel_rfl
theorem pair58 : (pairT (doS 58 7) ofS 14336 4).sure (fun _ _ => false) = true := by kernel_rfl
end SX
end Go.Proofs.YtnjaaagiindclaaGreatDoor
