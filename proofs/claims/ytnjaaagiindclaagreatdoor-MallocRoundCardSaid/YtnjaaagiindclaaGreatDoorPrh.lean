/-
  Two blocks of one class: classes 59 to 66.
-/
import Derived.Test.YtnjaaagiindclaaGreatDoorPk12
namespace Go.Proofs.YtnjaaagiindclaaGreatDoor
open Go.RowKit Go.Deep
namespace SX
set_option maxRecDepth 100000
theorem pair59 : (pairT (doS 59 2) ofS 16384 1).sure (fun _ _ => false) = true := by kernel_rfl
theorem pair60 : (pairT (doS 60 9) ofS 18432 4).sure (fun _ _ => false) = true := by kernel_rfl
theorem pair61 : (pairT (doS 61 7) ofS 19072 3).sure (fun _ _ => false) = true := by kernel_rfl
theorem pair62 : (pairT (doS 62 5) ofS 20480 2).sure (fun _ _ => false) = true := by kernel_rfl
theorem pair63 : (pairT (doS 63 8) ofS 21760 3).sure (fun _ _ => false) = true := by kernel_rfl
theorem pair64 : (pairT (doS 64 3) ofS 24576 1).sure (fun _ _ => false) = true := by kernel_rfl
theorem pair65 : (pairT (doS 65 10) ofS 27264 3).sure (fun _ _ => false) = true := by kernel_rfl
theorem pair66 : (pairT (doS 66 7) ofS 28672 2).sure (fun _ _ => false) = true := by kernel_rfl
end SX
end Go.Proofs.YtnjaaagiindclaaGreatDoor
