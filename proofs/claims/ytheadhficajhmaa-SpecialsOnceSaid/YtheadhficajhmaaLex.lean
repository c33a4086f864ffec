/-
  SpecialsOnce: the order of its great region is that of the text.
-/
import Derived.Test.YtheadhficajhmaaOnce
import Derived.KernelRfl
namespace Go.Proofs.Ytheadhficajhmaa
open Go

/-- a region's operations -/
def regionOf (n : Nat) : Code → Option (Array Oper)
  | .region id ops _ => if id = n then some ops else none
  | .seq a b => match regionOf n a with
    | some c => some c
    | none => regionOf n b
  | .block _ c => regionOf n c
  | .scope c => regionOf n c
  | .loop c => regionOf n c
  | .cond _ a b => match regionOf n a with
    | some c => some c
    | none => regionOf n b
  | _ => none

theorem lex26 : Region.lexB .any ((Try.f6.body.bind (regionOf 26)).getD #[]) = true := by kernel_rfl
end Go.Proofs.Ytheadhficajhmaa
