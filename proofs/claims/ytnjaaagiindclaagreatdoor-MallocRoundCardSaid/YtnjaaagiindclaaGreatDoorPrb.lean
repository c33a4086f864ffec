/-
  Two blocks of one class: classes 11 to 18.
-/
import Derived.Test.YtnjaaagiindclaaGreatDoorPk12
namespace Go.Proofs.YtnjaaagiindclaaGreatDoor
open Go.RowKit Go.Deep
namespace SX
set_option maxRecDepth 100000
theorem pair11 : (pairT (doS 11 1) ofS 144 56).sure (fun _ _ => false) = true := by kernel_rfl
theorem pair12 : (pairT (doS 12 1) ofS 160 51).sure (fun _ _ => false) = true := by kernel_rfl
theorem pair13 : (pairT (doS 13 1) ofS 176 46).sure (fun _ _ => false) = true := by kernel_rfl
theorem pair14 : (pairT (doS 14 1) ofS 192 42).sure (fun _ _ => false) = true := by kernel_rfl
theorem pair15 : (pairT (doS 15 1) ofS 208 39).sure (fun _ _ => false) = true := by kernel_rfl
theorem pair16 : (pairT (doS 16 1) ofS 224 36).sure (fun _ _ => false) = true := by kernel_rfl
theorem pair17 : (pairT (doS 17 1) ofS 240 34).sure (fun _ _ => false) = true := by kernel_rfl
theorem pair18 : (pairT (doS 18 1) ofS 256 32).sure (fun _ _ => false) = true := by kernel_rfl
end SX
end Go.Proofs.YtnjaaagiindclaaGreatDoor
