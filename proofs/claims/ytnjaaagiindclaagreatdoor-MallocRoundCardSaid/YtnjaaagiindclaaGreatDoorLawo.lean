/-
  MallocRound, of an argument that is no class. The table of TrailingZeros64 lies.
-/
import Derived.Test.YtnjaaagiindclaaGreatDoorPk13
namespace Go.Proofs.YtnjaaagiindclaaGreatDoor
open Go.RowKit Go.Deep
attribute [local go_sem] Oper.semAt_some
set_option maxRecDepth 100000 in
set_option maxHeartbeats 4000000 in
theorem law_out (k : Int) (hk : ¬ (3 ≤ k ∧ k < 68)) (a b : Nat) (w : World) (hL : Laid w) :
    Calls Tryz.prog 3 #[.int .i64 k, .int .u64 (a : Int), .int .u64 (b : Int)] w fun e w' => e = .returned (.bool true) ∧ Fr (fun _ => False) w w' := by
  have HT := Lib.hid (SX.table_h w)
  have HA := Lib.hid (fun (U : World) (hU : Fr (fun _ => False) w U) => awake_h U (hL.fr hU))
  have HF : Hid (∀ (g : Nat) (cc : Array Value) (U : World), Hp w U [[(g, .cells cc 34 (0, 0))], SX.allG w] → Fr (fun _ => False) w U) := Lib.hid fun g cc U hp => by
    have H : SX.Holds ⟨w, [[(g, .cells cc 34 (0, 0))]], SX.numB w 0 1⟩ (fun b => if b = 0 then some 0 else none) [(0, .big .z)] U := ⟨[SX.allG w], ⟨_, _, rfl, ⟨0, rfl, rfl⟩, rfl⟩, hp.permG (List.Perm.swap ..)⟩
    exact H.frB rfl (fun _ _ hG => hG) rfl
  by_cases h3 : k < 3
  · have g1 : decide (k < 3) = true := by simp [h3]
    clear hk
    go_enter Tryz.func3, Tryz.ntmps3
    go_wp2_with (first
      | (go_at_call 10; refine HT.out.mono ?_; rintro e w1 ⟨g, c, cc, rfl, hcc, hcell, hp1⟩; replace hcell := Lib.hid hcell; replace hp1 := Lib.hid (HF.out _ _ _ hp1))
      | (go_at_call 11; refine (HA.out _ hp1.out).mono ?_; rintro e w9 ⟨rfl, hf9⟩; replace hf9 := Lib.hid hf9))
    all_goals (refine ⟨rfl, .bool true, ?_, rfl, hp1.out.trans hf9.out (fun _ _ h => h)⟩; first | rfl | (simp [go_sem, results]; done) | (go_simp; done))
  · have h4 : 68 ≤ k := by omega
    have g1 : decide (k < 3) = false := by simp [h3]
    have g2 : decide (k ≥ 68) = true := by simp [h4]
    clear hk
    go_enter Tryz.func3, Tryz.ntmps3
    go_wp2_with (first
      | (go_at_call 10; refine HT.out.mono ?_; rintro e w1 ⟨g, c, cc, rfl, hcc, hcell, hp1⟩; replace hcell := Lib.hid hcell; replace hp1 := Lib.hid (HF.out _ _ _ hp1))
      | (go_at_call 11; refine (HA.out _ hp1.out).mono ?_; rintro e w9 ⟨rfl, hf9⟩; replace hf9 := Lib.hid hf9))
    all_goals (refine ⟨rfl, .bool true, ?_, rfl, hp1.out.trans hf9.out (fun _ _ h => h)⟩; first | rfl | (simp [go_sem, results]; done) | (go_simp; done))
end Go.Proofs.YtnjaaagiindclaaGreatDoor
