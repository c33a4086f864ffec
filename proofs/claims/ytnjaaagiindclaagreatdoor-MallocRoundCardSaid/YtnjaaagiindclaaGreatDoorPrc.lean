/-
  Two blocks of one class: classes 19 to 26.
-/
import Derived.Test.YtnjaaagiindclaaGreatDoorPk12
namespace Go.Proofs.YtnjaaagiindclaaGreatDoor
open Go.RowKit Go.Deep
namespace SX
set_option maxRecDepth 100000
theorem pair19 : (pairT (doS 19 1) ofS 288 28).sure (fun _ _ => false) = true := by kernel_rfl
theorem pair20 : (pairT (doS 20 1) ofS 320 25).sure (fun _ _ => false) = true := by kernel_rfl
theorem pair21 : (pairT (doS 21 1) ofS 352 23).sure (fun _ _ => false) = true := by kernel_rfl
theorem pair22 : (pairT (doS 22 1) ofS 384 21).sure (fun _ _ => false) = true := by kernel_rfl
theorem pair23 : (pairT (doS 23 1) ofS 416 19).sure (fun _ _ => false) = true := by kernel_rfl
theorem pair24 : (pairT (doS 24 1) ofS 448 18).sure (fun _ _ => false) = true := by kernel_rfl
theorem pair25 : (pairT (doS 25 1) ofS 480 17).sure (fun _ _ => false) = true := by kernel_rfl
theorem pair26 : (pairT (doS 26 1) ofS 512 16).sure (fun _ _ => false) = true := by kernel_rfl
end SX
end Go.Proofs.YtnjaaagiindclaaGreatDoor
