/-
  Two blocks of one class: classes 67 to 67.
-/
import Derived.Test.YtnjaaagiindclaaGreatDoorPk12
namespace Go.Proofs.YtnjaaagiindclaaGreatDoor
open Go.RowKit Go.Deep
namespace SX
set_option maxRecDepth 100000
theorem pair67 : (pairT (doS 67 4) ofS 32768 1).sure (fun _ _ => false) = true := by kernel_rfl
end SX
end Go.Proofs.YtnjaaagiindclaaGreatDoor
