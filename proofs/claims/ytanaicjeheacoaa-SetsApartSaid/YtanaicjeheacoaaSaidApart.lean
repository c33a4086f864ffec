/-
  SetsApart, the statement: whatever the arguments are, it answers true, and leaves what was there. No condition.
-/
import Derived.Test.YtanaicjeheacoaaApart
import Derived.Test.YtanaicjeheacoaaOpen
namespace Go.Proofs.Ytanaicjeheacoaa.setsApart
open Go.ChangeShapes Go.WideShapes Go.ChangeAt Go.RowKit Go.Deep

set_option maxRecDepth 100000 in
theorem lifted (os : Os) (started : os.Started) (H : Type) (enc : TypeId × Value → H) :
    ReturnsInHanded {} Try.checked os 5 .any (Rows.setsApartSpec.pre6 enc Try.prog Try.f5 Rows.setsApartRow.domain false) (Rows.setsApartSpec.post enc Try.prog Try.f5 false true false false) := by
  refine returnsInHanded_of_change (C := Try.checked) Try.own' started (by kernel_rfl) Try.func5
    (ChangeSpec.witness6 (enc := enc) (C := Try.checked) false ⟨#[], #[.slice none 0 0, .slice none 0 0], []⟩ 8 (by kernel_rfl) (by kernel_rfl) (by kernel_rfl) (by kernel_rfl)) ?_
  intro W base args ds gs before hval0 hW hcnd _
  have hval : ∀ (j : Nat) t v, Try.f5.params[j]? = some t → args[j]? = some v → Value.okWide Try.prog W .any base t v := hval0
  have hW' := hW
  obtain ⟨p, q, hA0, hV, rfl, hfz, hnd⟩ := hW
  have hA : DataW.TrodAll enc Try.prog W 0 (fun _ => true) true Try.f5.params.toList args.toList ds p := hA0
  rw [Try.params5] at hA hval
  obtain ⟨v0, vs0, d0, ds0, p0, q0, hargs, rfl, rfl, h0, r0⟩ := trodAll_cons hA
  obtain ⟨v1, vs1, d1, ds1, p1, q1, rfl, rfl, rfl, h1, r1⟩ := trodAll_cons r0
  obtain ⟨rfl, rfl, rfl⟩ := trodAll_nil r1
  obtain rfl : args = #[v0, v1] := by cases args; simp_all
  obtain ⟨rfl, rfl⟩ := trodVars_none hV
  obtain ⟨a0, len0, cap0, rfl⟩ := okWide_slice Try.underlying33 (hval 0 33 v0 rfl rfl)
  have k0 := h0
  have lt0 : ∀ x ∈ p0, x.block < W.heap.size := by obtain ⟨m, hm⟩ := k0; exact DataW.trod_lt m _ _ _ hm
  obtain ⟨o0, m0⟩ : Acts W (.slice a0 len0 cap0) len0 ∧ len0 ≤ 9223372036854775807 := by
    obtain ⟨fuel, hf⟩ := h0
    obtain ⟨hl, hm, hi⟩ := open_structs Try.underlying33 Try.underlying40 (by kernel_rfl) (by kernel_rfl) hf
    refine ⟨⟨a0, cap0, rfl, fun i hil => ?_⟩, by simp only [maxLen] at hm; omega⟩
    obtain ⟨a, rfl, hfs⟩ := hi i hil
    obtain ⟨v0, y0, n0, c0, t0⟩ := hfs 0 _ rfl
    obtain ⟨v1, y1, n1, c1, t1⟩ := hfs 1 _ rfl
    obtain ⟨v2, y2, n2, c2, t2⟩ := hfs 2 _ rfl
    obtain ⟨v3, y3, n3, c3, t3⟩ := hfs 3 _ rfl
    obtain ⟨v4, y4, n4, c4, t4⟩ := hfs 4 _ rfl
    obtain ⟨v5, y5, n5, c5, t5⟩ := hfs 5 _ rfl
    obtain ⟨v6, y6, n6, c6, t6⟩ := hfs 6 _ rfl
    obtain ⟨z0, rfl, w0⟩ := trod_int_cell Try.underlying3 t0
    obtain ⟨z1, rfl, w1⟩ := trod_int_cell Try.underlying3 t1
    obtain ⟨z2, rfl, w2⟩ := trod_int_cell Try.underlying3 t2
    obtain ⟨z3, rfl, w3⟩ := trod_int_cell Try.underlying26 t3
    obtain ⟨z4, rfl⟩ := trod_bool_cell Try.underlying4 t4
    obtain ⟨z5, rfl⟩ := trod_bool_cell Try.underlying4 t5
    obtain ⟨z6, rfl⟩ := trod_bool_cell Try.underlying4 t6
    obtain ⟨b, o, spot⟩ := a
    have hspot : spot = none := by
      obtain ⟨a', ha', hz⟩ := hi 0 (by omega)
      cases ha'
      obtain ⟨_, _, _, cz, _⟩ := hz 0 _ rfl
      have := World.cell?_spot cz
      simpa [Addr.add] using this
    subst hspot
    have ha : ∀ k, (⟨b, o, none⟩ : Addr).add k = ⟨b, o + k, none⟩ := fun k => add_plain' b o k
    simp only [ha, ← Nat.add_assoc, Nat.add_zero] at c0 c1 c2 c3 c4 c5 c6
    exact acts_mk c0 c1 c2 c3 c4 c5 c6 w0 w1 w2 w3
  obtain ⟨a1, len1, cap1, rfl⟩ := okWide_slice Try.underlying43 (hval 1 43 v1 rfl rfl)
  have k1 := h1
  have lt1 : ∀ x ∈ p1, x.block < W.heap.size := by obtain ⟨m, hm⟩ := k1; exact DataW.trod_lt m _ _ _ hm
  obtain ⟨l1, m1, o1⟩ : len1 ≤ cap1 ∧ cap1 ≤ maxLen ∧ Bools W (.slice a1 len1 cap1) len1 := by
    obtain ⟨fuel, hf⟩ := h1
    exact open_bool_row Try.underlying43 Try.underlying4 (by kernel_rfl) hf
  clear hA0 hval0
  refine (apart_said W _ len0 o0 m0 _ len1 o1).mono fun e W' ⟨he, hfr⟩ => ?_
  subst he
  have bel := hfr.below (Nat.le_refl _) (fun _ => False.elim)
  exact ⟨_, rfl, _, _, _, [], _, [], hW', trodAll_mk1 (shut_bool Try.underlying4 _), (trodAll_cons_mk (Below.trod Try.laidOut' (by kernel_rfl) (of_decide_eq_true (by kernel_rfl)) k0 bel lt0) (trodAll_cons_mk (Below.trod Try.laidOut' (by kernel_rfl) (of_decide_eq_true (by kernel_rfl)) k1 bel lt1) trodAll_mk0)), rfl, bel.frame _, fun h => by cases h⟩

theorem over : Rows.setsApartRow.holds Try.pinned (OpenSpec.ofChange Rows.setsApartSpec) :=
  OpenClaim.holds_of_wide 5 Try.f5 rfl rfl rfl rfl rfl rfl rfl ⟨rfl, rfl, rfl, rfl, rfl⟩ rfl rfl rfl rfl rfl (by kernel_rfl) Try.func5 (by kernel_rfl)
    (of_decide_eq_true (by kernel_rfl)) (by unfold Func.isWrapper; first | (rw [if_pos (by decide +kernel)]; kernel_rfl) | (rw [if_neg (by decide +kernel)]; exact ⟨rfl, rfl⟩))
    (fun os started H enc _ => lifted os started H enc)

theorem proved : Rows.SetsApartSaid := over
end Go.Proofs.Ytanaicjeheacoaa.setsApart
