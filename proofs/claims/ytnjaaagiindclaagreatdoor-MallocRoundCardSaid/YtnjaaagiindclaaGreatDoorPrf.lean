/-
  Two blocks of one class: classes 43 to 50.
-/
import Derived.Test.YtnjaaagiindclaaGreatDoorPk12
namespace Go.Proofs.YtnjaaagiindclaaGreatDoor
open Go.RowKit Go.Deep
namespace SX
set_option maxRecDepth 100000
theorem pair43 : (pairT (doS 43 3) ofS 3456 7).sure (fun _ _ => false) = true := by kernel_rfl
theorem pair44 : (pairT (doS 44 1) ofS 4096 2).sure (fun _ _ => false) = true := by kernel_rfl
theorem pair45 : (pairT (doS 45 3) ofS 4864 5).sure (fun _ _ => false) = true := by kernel_rfl
theorem pair46 : (pairT (doS 46 2) ofS 5376 3).sure (fun _ _ => false) = true := by kernel_rfl
theorem pair47 : (pairT (doS 47 3) ofS 6144 4).sure (fun _ _ => false) = true := by kernel_rfl
theorem pair48 : (pairT (doS 48 4) ofS 6528 5).sure (fun _ _ => false) = true := by kernel_rfl
theorem pair49 : (pairT (doS 49 5) ofS 6784 6).sure (fun _ _ => false) = true := by kernel_rfl
theorem pair50 : (pairT (doS 50 6) ofS 6912 7).sure (fun _ _ => false) = true := by kernel_rfl
end SX
end Go.Proofs.YtnjaaagiindclaaGreatDoor
