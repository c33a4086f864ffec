/-
  MasksPlay, the statement: whatever the arguments are, it answers true, and leaves what was there. No condition.
-/
import Derived.Test.YtcnnibhipjkgiaaPlay
import Derived.Test.YtcnnibhipjkgiaaOpen
namespace Go.Proofs.Ytcnnibhipjkgiaa.masksPlay
open Go.ChangeShapes Go.WideShapes Go.ChangeAt Go.RowKit Go.Deep

set_option maxRecDepth 100000 in
theorem lifted (os : Os) (started : os.Started) (H : Type) (enc : TypeId × Value → H) :
    ReturnsInHanded {} Try.checked os 5 .any (Rows.masksPlaySpec.pre6 enc Try.prog Try.f5 Rows.masksPlayRow.domain false) (Rows.masksPlaySpec.post enc Try.prog Try.f5 false true false false) := by
  refine returnsInHanded_of_change_sized (C := Try.checked) Try.own' started (by kernel_rfl) Try.func5
    (ChangeSpec.witness6 (enc := enc) (C := Try.checked) false ⟨#[], #[.slice none 0 0], []⟩ 8 (by kernel_rfl) (by kernel_rfl) (by kernel_rfl) (by kernel_rfl)) ?_
  intro W base args ds gs before hval0 hW hcnd hsz0 _
  have hval : ∀ (j : Nat) t v, Try.f5.params[j]? = some t → args[j]? = some v → Value.okWide Try.prog W .any base t v := hval0
  have hW' := hW
  obtain ⟨p, q, hA0, hV, rfl, hfz, hnd⟩ := hW
  have hA : DataW.TrodAll enc Try.prog W 0 (fun _ => true) true Try.f5.params.toList args.toList ds p := hA0
  rw [Try.params5] at hA hval
  obtain ⟨v0, vs0, d0, ds0, p0, q0, hargs, rfl, rfl, h0, r0⟩ := trodAll_cons hA
  obtain ⟨rfl, rfl, rfl⟩ := trodAll_nil r0
  obtain rfl : args = #[v0] := by cases args; simp_all
  obtain ⟨rfl, rfl⟩ := trodVars_none hV
  obtain ⟨a0, len0, cap0, rfl⟩ := okWide_slice Try.underlying40 (hval 0 40 v0 rfl rfl)
  have k0 := h0
  have lt0 : ∀ x ∈ p0, x.block < W.heap.size := by obtain ⟨m, hm⟩ := k0; exact DataW.trod_lt m _ _ _ hm
  have hwt : ∀ n ∈ d0.weights Try.prog 40, n ≤ reachBytes := fun n hn => by
    have h1 := List.all_eq_true.1 hsz0 n (DataW.weights_mem_each (j := 0) (t := 40) (d := d0) (by rw [Try.params5]; rfl) (by rfl) n hn)
    simpa using h1
  have o0 : Acts W (.slice a0 len0 cap0) len0 := by
    obtain ⟨fuel, hf⟩ := h0
    exact open_acts (P := Try.prog) (e := 48) (q := 27) (m := 22) (b := 4) (u := 23) (i := 3) Try.underlying40 Try.underlying48 Try.underlying27 Try.underlying3 Try.underlying23 Try.underlying22 Try.underlying4
      (by kernel_rfl) (by kernel_rfl) (by kernel_rfl) (by kernel_rfl) (by kernel_rfl) (by kernel_rfl) ⟨_, rfl, rfl, rfl⟩ ⟨_, rfl, rfl, rfl⟩ ⟨_, rfl, rfl, rfl⟩ ⟨_, rfl, rfl, rfl⟩ ⟨_, rfl, rfl, rfl⟩ ⟨_, rfl, rfl, rfl⟩ ⟨_, rfl, rfl, rfl⟩ (by kernel_rfl) hwt hf
  clear hA0 hval0
  refine (play_any _ len0 W o0).mono fun e W' ⟨he, hfr⟩ => ?_
  subst he
  have bel := hfr.below (Nat.le_refl _) (fun _ => False.elim)
  exact ⟨_, rfl, _, _, _, [], _, [], hW', trodAll_mk1 (shut_bool Try.underlying4 _), (trodAll_cons_mk (Below.trod Try.laidOut' (by kernel_rfl) (of_decide_eq_true (by kernel_rfl)) k0 bel lt0) trodAll_mk0), rfl, bel.frame _, fun h => by cases h⟩

theorem over : Rows.masksPlayRow.holds Try.pinned (OpenSpec.ofChange Rows.masksPlaySpec) :=
  OpenClaim.holds_of_wide 5 Try.f5 rfl rfl rfl rfl rfl rfl rfl ⟨rfl, rfl, rfl, rfl, rfl⟩ rfl rfl rfl rfl rfl (by kernel_rfl) Try.func5 (by kernel_rfl)
    (of_decide_eq_true (by kernel_rfl)) (by unfold Func.isWrapper; first | (rw [if_pos (by decide +kernel)]; kernel_rfl) | (rw [if_neg (by decide +kernel)]; exact ⟨rfl, rfl⟩))
    (fun os started H enc _ => lifted os started H enc)

theorem proved : Rows.MasksPlaySaid := over
end Go.Proofs.Ytcnnibhipjkgiaa.masksPlay
