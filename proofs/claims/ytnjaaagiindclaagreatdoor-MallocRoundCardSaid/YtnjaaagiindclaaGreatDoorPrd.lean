/-
  Two blocks of one class: classes 27 to 34.
-/
import Derived.Test.YtnjaaagiindclaaGreatDoorPk12
namespace Go.Proofs.YtnjaaagiindclaaGreatDoor
open Go.RowKit Go.Deep
namespace SX
set_option maxRecDepth 100000
theorem pair27 : (pairT (doS 27 1) ofS 576 14).sure (fun _ _ => false) = true := by kernel_rfl
theorem pair28 : (pairT (doS 28 1) ofS 640 12).sure (fun _ _ => false) = true := by kernel_rfl
theorem pair29 : (pairT (doS 29 1) ofS 704 11).sure (fun _ _ => false) = true := by kernel_rfl
theorem pair30 : (pairT (doS 30 1) ofS 768 10).sure (fun _ _ => false) = true := by kernel_rfl
theorem pair31 : (pairT (doS 31 1) ofS 896 9).sure (fun _ _ => false) = true := by kernel_rfl
theorem pair32 : (pairT (doS 32 1) ofS 1024 8).sure (fun _ _ => false) = true := by kernel_rfl
theorem pair33 : (pairT (doS 33 1) ofS 1152 7).sure (fun _ _ => false) = true := by kernel_rfl
theorem pair34 : (pairT (doS 34 1) ofS 1280 6).sure (fun _ _ => false) = true := by kernel_rfl
end SX
end Go.Proofs.YtnjaaagiindclaaGreatDoor
