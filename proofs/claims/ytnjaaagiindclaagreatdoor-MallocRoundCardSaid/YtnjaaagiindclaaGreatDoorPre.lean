/-
  Two blocks of one class: classes 35 to 42.
-/
import Derived.Test.YtnjaaagiindclaaGreatDoorPk12
namespace Go.Proofs.YtnjaaagiindclaaGreatDoor
open Go.RowKit Go.Deep
namespace SX
set_option maxRecDepth 100000
theorem pair35 : (pairT (doS 35 2) ofS 1408 11).sure (fun _ _ => false) = true := by kernel_rfl
theorem pair36 : (pairT (doS 36 1) ofS 1536 5).sure (fun _ _ => false) = true := by kernel_rfl
theorem pair37 : (pairT (doS 37 2) ofS 1792 9).sure (fun _ _ => false) = true := by kernel_rfl
theorem pair38 : (pairT (doS 38 1) ofS 2048 4).sure (fun _ _ => false) = true := by kernel_rfl
theorem pair39 : (pairT (doS 39 2) ofS 2304 7).sure (fun _ _ => false) = true := by kernel_rfl
theorem pair40 : (pairT (doS 40 1) ofS 2688 3).sure (fun _ _ => false) = true := by kernel_rfl
theorem pair41 : (pairT (doS 41 3) ofS 3072 8).sure (fun _ _ => false) = true := by kernel_rfl
theorem pair42 : (pairT (doS 42 2) ofS 3200 5).sure (fun _ _ => false) = true := by kernel_rfl
end SX
end Go.Proofs.YtnjaaagiindclaaGreatDoor
