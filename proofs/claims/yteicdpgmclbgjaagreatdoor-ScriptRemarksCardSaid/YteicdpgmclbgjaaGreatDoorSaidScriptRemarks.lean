/-
  ScriptRemarks, the statement: whatever the arguments are, it answers true, and leaves what was there. Its condition: the listed variables of the library hold what the library's text lays (tied by the card).
-/
import Derived.Test.YteicdpgmclbgjaaGreatDoorPk15
import Derived.Test.YteicdpgmclbgjaaGreatDoorKSr1
import Derived.Test.YteicdpgmclbgjaaGreatDoorKSr2
import Derived.Test.YteicdpgmclbgjaaGreatDoorKSr3
import Derived.Test.YteicdpgmclbgjaaGreatDoorKSr4
import Derived.Test.YteicdpgmclbgjaaGreatDoorKSr5
import Derived.Test.YteicdpgmclbgjaaGreatDoorCards
import Derived.Test.YteicdpgmclbgjaaGreatDoorTie
namespace Go.Proofs.YteicdpgmclbgjaaGreatDoor.scriptRemarks
open Go.ChangeShapes Go.WideShapes Go.ChangeAt Go.RowKit Go.Deep

set_option maxRecDepth 100000 in
theorem lifted (os : Os) (started : os.Started) (H : Type) (enc : TypeId × Value → H) :
    ReturnsInHanded {} Tryz.checked os 3 .any (fun w args => (Rows.scriptRemarksSpec.pre enc Tryz.prog Tryz.f3 Rows.scriptRemarksRow.domain false w args ∧ laidMetH Tryz.prog Rows.scriptRemarksRow.laid w) ∧ sizedMet enc Tryz.prog Tryz.f3 (OpenSpec.ofChange Rows.scriptRemarksSpec) false w args)
      (Rows.scriptRemarksSpec.post enc Tryz.prog Tryz.f3 false true false false) := by
  refine returnsInHanded_laid_shaped (C := Tryz.checked) (X := fun w _ => laidMetH Tryz.prog Rows.scriptRemarksRow.laid w) (fun _ _ _ hh h => h.of_heap hh) own46 started (by kernel_rfl) Tryz.func3
    (ChangeSpec.witness_shaped (enc := enc) (C := Tryz.checked) (os := os) (X := fun w _ => laidMetH Tryz.prog Rows.scriptRemarksRow.laid w) false (World.laidAll Tryz.prog os Rows.scriptRemarksRow.laid) #[.int .i64 0, .slice none 0 0] 8 (World.laidAll_os _ _ _)
      (World.shaped_of_ZipB (by kernel_rfl) (by kernel_rfl)) (by kernel_rfl) (by kernel_rfl) (by kernel_rfl)
      (by rw [MakeChecks.laidMetH_plain _ _ _ (by kernel_rfl)]; exact laidMet_laidAll _ (by kernel_rfl) (by kernel_rfl))) ?_
  intro W base args ds gs before hval0 hW hL hsh
  have hval : ∀ (j : Nat) t v, Tryz.f3.params[j]? = some t → args[j]? = some v → Value.okWide Tryz.prog W .any base t v := hval0
  have hW' := hW
  obtain ⟨p, q, hA0, hV, rfl, hfz, hnd⟩ := hW
  have hA : DataW.TrodAll enc Tryz.prog W 0 (fun _ => true) true Tryz.f3.params.toList args.toList ds p := hA0
  rw [Tryz.params3] at hA hval
  obtain ⟨v0, vs0, d0, ds0, p0, q0, hargs, rfl, rfl, h0, r0⟩ := trodAll_cons hA
  obtain ⟨v1, vs1, d1, ds1, p1, q1, rfl, rfl, rfl, h1, r1⟩ := trodAll_cons r0
  obtain ⟨rfl, rfl, rfl⟩ := trodAll_nil r1
  obtain rfl : args = #[v0, v1] := by cases args; simp_all
  obtain ⟨rfl, rfl⟩ := trodVars_none hV
  obtain ⟨n, rfl, rfl, rfl, wn⟩ := open_int Tryz.underlying3 (hval 0 3 v0 rfl rfl) h0
  obtain ⟨a0, len0, cap0, rfl⟩ := okWide_slice Tryz.underlying22 (hval 1 22 v1 rfl rfl)
  have k1 := h1
  have lt1 : ∀ x ∈ p1, x.block < W.heap.size := by obtain ⟨m, hm⟩ := k1; exact DataW.trod_lt m _ _ _ hm
  obtain ⟨fuel, hf⟩ := h1
  obtain ⟨hlc, hcm, ws, rfl, hwl, hat⟩ := open_words hf
  rw [MakeChecks.laidMetH_plain _ _ _ (by kernel_rfl)] at hL
  have hLd : Laid W := laid_of hL
  clear hA0 hval0
  have hmx : maxLen = 9223372036854775807 := by decide
  rw [hmx] at hcm hwl
  refine (law_h n a0 ws cap0 hlc W hLd hat (by omega) hwl).mono fun e W' ⟨he, hfr⟩ => ?_
  subst he
  have bel := hfr.below (Nat.le_refl _) (fun _ => False.elim)
  exact ⟨_, rfl, _, _, _, [], _, [], hW', trodAll_mk1 (shut_bool Tryz.underlying4 _), (trodAll_cons_mk (shut_int Tryz.underlying3 wn) (trodAll_cons_mk (Below.trod laidOut46 (by kernel_rfl) (of_decide_eq_true (by kernel_rfl)) k1 bel lt1) trodAll_mk0)), rfl, bel.frame _, fun h => by cases h⟩

set_option maxRecDepth 100000 in
theorem closed : joinedFacts Tryz.pinned.checked.prog 3 Tryz.f3 Rows.scriptRemarksSpec Rows.scriptRemarksRow = true := by
  unfold joinedFacts
  rw [k_wf, k_laidOut, k_mapsRowed, k_read, k_inPlace, k_unfollowed, k_recurses, k_named]
  kernel_rfl
theorem over : Rows.scriptRemarksRow.holds Tryz.pinned (OpenSpec.ofChange Rows.scriptRemarksSpec) :=
  OpenClaim.holds_of_wide 3 Tryz.f3 rfl rfl rfl rfl rfl rfl rfl ⟨rfl, rfl, rfl, rfl, rfl⟩ rfl rfl rfl rfl rfl (by kernel_rfl) Tryz.func3 closed
    (of_decide_eq_true (by kernel_rfl)) (by unfold Func.isWrapper; first | (rw [if_pos (by decide +kernel)]; kernel_rfl) | (rw [if_neg (by decide +kernel)]; exact ⟨rfl, rfl⟩))
    (fun os started H enc _ => lifted os started H enc)

theorem proved : Rows.ScriptRemarksCardSaid :=
  Claim7.holds_tied_plain_at .later [] [.data, .data, .data, .data, .sentinel, .sentinel, .pinned] true (true, "a5f261990a9d355e083d3775a53e76b4b4244fd304dd89dd22d7babd57a0c501") true over (fun _ h => by cases h) k_wfByText (fun _ h => by cases h) scriptRemarks_row_tie rfl ⟨rfl, rfl⟩ k_mainIs rfl
    (fun f fn hf hfn => by
      obtain rfl : f = 3 := Option.some.inj ((show Tryz.prog.funcNamed "mallow/mallowlaw26.ScriptRemarks" = some 3 by kernel_rfl).symm.trans hf) |>.symm
      obtain rfl : fn = Tryz.f3 := (Option.some.inj (Tryz.func3.symm.trans hfn)).symm
      exact ⟨k_looks, fun j t ht => by
        rw [Tryz.params3] at ht
        have hm : t ∈ [3, 22] := by simpa using Array.mem_of_getElem? ht
        have hall := k_stand
        exact (show Tryz.prog.wantsStandIn t = false by simpa using List.all_eq_true.1 hall t hm)⟩)
    k_goesBy
end Go.Proofs.YteicdpgmclbgjaaGreatDoor.scriptRemarks
