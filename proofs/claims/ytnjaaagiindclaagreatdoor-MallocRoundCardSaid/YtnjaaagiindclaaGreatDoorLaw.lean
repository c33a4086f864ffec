/-
  MallocRound, of every argument. The table of TrailingZeros64 lies.
-/
import Derived.Test.YtnjaaagiindclaaGreatDoorCl
import Derived.Test.YtnjaaagiindclaaGreatDoorLawo
namespace Go.Proofs.YtnjaaagiindclaaGreatDoor
open Go.RowKit Go.Deep
theorem law_h (k : Int) (a b : Nat) (ha : a < 18446744073709551616) (hb : b < 18446744073709551616) (w : World) (hL : Laid w) :
    Calls Tryz.prog 3 #[.int .i64 k, .int .u64 (a : Int), .int .u64 (b : Int)] w fun e w' => e = .returned (.bool true) ∧ Fr (fun _ => False) w w' := by
  by_cases hk : 3 ≤ k ∧ k < 68
  · obtain ⟨m, rfl⟩ : ∃ m : Nat, k = (m : Int) + 1 := ⟨(k - 1).toNat, by omega⟩
    obtain ⟨lo, hi, slots, hc⟩ := clsAll m (by omega) (by omega)
    exact law_in hc a b ha hb w hL fun U hU => awake_h U hU
  · exact law_out k hk a b w hL
end Go.Proofs.YtnjaaagiindclaaGreatDoor
