/-
  MallocZombies, the statement: whatever the arguments are, it answers true, and leaves what was there. Its condition: the listed variables of the library hold what the library's text lays (tied by the card).
-/
import Derived.Test.YtnjaaagiindclaaGreatDoorOp23
import Derived.Test.YtnjaaagiindclaaGreatDoorZLaw
import Derived.Test.YtnjaaagiindclaaGreatDoorKMz1
import Derived.Test.YtnjaaagiindclaaGreatDoorKMz2
import Derived.Test.YtnjaaagiindclaaGreatDoorKMz3
import Derived.Test.YtnjaaagiindclaaGreatDoorKMz4
import Derived.Test.YtnjaaagiindclaaGreatDoorKMz5
import Derived.Test.YtnjaaagiindclaaGreatDoorCards
import Derived.Test.YtnjaaagiindclaaGreatDoorTie
namespace Go.Proofs.YtnjaaagiindclaaGreatDoor.mallocZombies
open Go.ChangeShapes Go.WideShapes Go.ChangeAt Go.RowKit Go.Deep

set_option maxRecDepth 100000 in
theorem lifted (os : Os) (started : os.Started) (H : Type) (enc : TypeId × Value → H) :
    ReturnsInHanded {} Tryz.checked os 5 .any (fun w args => (Rows.mallocZombiesSpec.pre enc Tryz.prog Tryz.f5 Rows.mallocZombiesRow.domain false w args ∧ laidMetH Tryz.prog Rows.mallocZombiesRow.laid w) ∧ sizedMet enc Tryz.prog Tryz.f5 (OpenSpec.ofChange Rows.mallocZombiesSpec) false w args)
      (Rows.mallocZombiesSpec.post enc Tryz.prog Tryz.f5 false true false false) := by
  refine returnsInHanded_laid_shaped (C := Tryz.checked) (X := fun w _ => laidMetH Tryz.prog Rows.mallocZombiesRow.laid w) (fun _ _ _ hh h => h.of_heap hh) own23 started (by kernel_rfl) Tryz.func5
    (ChangeSpec.witness_shaped (enc := enc) (C := Tryz.checked) (os := os) (X := fun w _ => laidMetH Tryz.prog Rows.mallocZombiesRow.laid w) false (World.laidAll Tryz.prog os Rows.mallocZombiesRow.laid) #[.int .i64 0, .int .u64 0, .int .i64 0] 8 (World.laidAll_os _ _ _)
      (World.shaped_of_ZipB (by kernel_rfl) (by kernel_rfl)) (by kernel_rfl) (by kernel_rfl) (by kernel_rfl)
      (by rw [MakeChecks.laidMetH_plain _ _ _ (by kernel_rfl)]; exact laidMet_laidAll _ (by kernel_rfl) (by kernel_rfl))) ?_
  intro W base args ds gs before hval0 hW hL hsh
  have hval : ∀ (j : Nat) t v, Tryz.f5.params[j]? = some t → args[j]? = some v → Value.okWide Tryz.prog W .any base t v := hval0
  have hW' := hW
  obtain ⟨p, q, hA0, hV, rfl, hfz, hnd⟩ := hW
  have hA : DataW.TrodAll enc Tryz.prog W 0 (fun _ => true) true Tryz.f5.params.toList args.toList ds p := hA0
  rw [Tryz.params5] at hA hval
  obtain ⟨v0, vs0, d0, ds0, p0, q0, hargs, rfl, rfl, h0, r0⟩ := trodAll_cons hA
  obtain ⟨v1, vs1, d1, ds1, p1, q1, rfl, rfl, rfl, h1, r1⟩ := trodAll_cons r0
  obtain ⟨v2, vs2, d2, ds2, p2, q2, rfl, rfl, rfl, h2, r2⟩ := trodAll_cons r1
  obtain ⟨rfl, rfl, rfl⟩ := trodAll_nil r2
  obtain rfl : args = #[v0, v1, v2] := by cases args; simp_all
  obtain ⟨rfl, rfl⟩ := trodVars_none hV
  obtain ⟨k, rfl, rfl, rfl, wk⟩ := open_int Tryz.underlying3 (hval 0 3 v0 rfl rfl) h0
  obtain ⟨a, rfl, rfl, rfl, wa⟩ := open_int Tryz.underlying22 (hval 1 22 v1 rfl rfl) h1
  obtain ⟨b, rfl, rfl, rfl, wb⟩ := open_int Tryz.underlying3 (hval 2 3 v2 rfl rfl) h2
  rw [MakeChecks.laidMetH_plain _ _ _ (by kernel_rfl)] at hL
  have hLd : Laid W := laid_of hL
  clear hA0 hval0
  obtain ⟨a', rfl, _⟩ := nat_of wa
  refine (law_zh k a' b W hLd).mono fun e W' ⟨he, hfr⟩ => ?_
  subst he
  have bel := hfr.below (Nat.le_refl _) (fun _ => False.elim)
  exact ⟨_, rfl, _, _, _, [], _, [], hW', trodAll_mk1 (shut_bool Tryz.underlying4 _), (trodAll_cons_mk (shut_int Tryz.underlying3 wk) (trodAll_cons_mk (shut_int Tryz.underlying22 wa) (trodAll_cons_mk (shut_int Tryz.underlying3 wb) trodAll_mk0))), rfl, bel.frame _, fun h => by cases h⟩

set_option maxRecDepth 100000 in
theorem closed : joinedFacts Tryz.pinned.checked.prog 5 Tryz.f5 Rows.mallocZombiesSpec Rows.mallocZombiesRow = true := by
  unfold joinedFacts
  rw [k_wf, k_laidOut, k_mapsRowed, k_read, k_inPlace, k_unfollowed, k_recurses, k_named]
  kernel_rfl
theorem over : Rows.mallocZombiesRow.holds Tryz.pinned (OpenSpec.ofChange Rows.mallocZombiesSpec) :=
  OpenClaim.holds_of_wide 5 Tryz.f5 rfl rfl rfl rfl rfl rfl rfl ⟨rfl, rfl, rfl, rfl, rfl⟩ rfl rfl rfl rfl rfl (by kernel_rfl) Tryz.func5 closed
    (of_decide_eq_true (by kernel_rfl)) (by unfold Func.isWrapper; first | (rw [if_pos (by decide +kernel)]; kernel_rfl) | (rw [if_neg (by decide +kernel)]; exact ⟨rfl, rfl⟩))
    (fun os started H enc _ => lifted os started H enc)

theorem proved : Rows.MallocZombiesCardSaid :=
  Claim7.holds_tied_plain_at .later [] [.data] true (true, "33e309a6ec4a7ecfd04bd0692588beb092f5b592c115a52d0de14f1a5b06b93b") true over (fun _ h => by cases h) k_wfByText (fun _ h => by cases h) mallocZombies_row_tie rfl ⟨rfl, rfl⟩ k_mainIs rfl
    (fun f fn hf hfn => by
      obtain rfl : f = 5 := Option.some.inj ((show Tryz.prog.funcNamed "mallow/mallowlaw23.MallocZombies" = some 5 by kernel_rfl).symm.trans hf) |>.symm
      obtain rfl : fn = Tryz.f5 := (Option.some.inj (Tryz.func5.symm.trans hfn)).symm
      exact ⟨k_looks, fun j t ht => by
        rw [Tryz.params5] at ht
        have hm : t ∈ [3, 22] := by
          rcases (by simpa using Array.mem_of_getElem? ht : t = 3 ∨ t = 22 ∨ t = 3) with rfl | rfl | rfl <;> simp
        have hall := k_stand
        exact (show Tryz.prog.wantsStandIn t = false by simpa using List.all_eq_true.1 hall t hm)⟩)
    k_goesBy
end Go.Proofs.YtnjaaagiindclaaGreatDoor.mallocZombies
