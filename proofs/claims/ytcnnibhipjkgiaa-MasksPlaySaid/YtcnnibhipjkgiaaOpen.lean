/-
  Arguments that came in: slices of structs of plain fields, opened to their cells.
-/
import Derived.Test.YtcnnibhipjkgiaaMem
import Derived.ProofKit
import Derived.OpenShut
import Derived.ShutString
import Derived.ChangeOld
import Derived.Deep.Slices
import Derived.Deep.Fields
namespace Go.Proofs.Ytcnnibhipjkgiaa
open Go.ChangeShapes Go.WideShapes Go.ChangeAt Go.RowKit Go.Deep

theorem Try.own' : ownKnob Try.prog.godebug = none := by kernel_rfl
theorem Try.laidOut' : laidOutB Try.prog = true := by kernel_rfl

section
variable {H : Type} {enc : TypeId × Value → H} {P : Program} {w : World} {base : Nat} {held : Bool}

/-- a slice of structs whose fields are one cell each: every field of every element is there, and reads -/
theorem open_structs {t e : TypeId} {fs : Array Field} {fuel : Nat} {a0 : Option Addr} {len cap : Nat} {x : DataW H × List MemPlace} (ht : P.underlying t = some (.slice e)) (he : P.underlying e = some (.struct fs))
    (hone : oneCellFields P fs = true) (hC : P.cellsOf e = fs.size) (h : DataW.trod enc P w base (fun _ => true) held fuel t (Value.cells (.slice a0 len cap)).toList = some x) :
    len ≤ cap ∧ cap ≤ maxLen ∧ ∀ i, i < len → ∃ a, a0 = some a ∧ ∀ (j : Nat) (f : Field), fs[j]? = some f → ∃ (v : Value) (y : DataW H × List MemPlace) (n : Nat),
      w.cell? (a.add (i * fs.size + j)) = some v ∧ DataW.trod enc P w base (fun _ => true) held n f.type [v] = some y := by
  rcases open_slice ht h with ⟨hcs, _⟩ | ⟨a, l, c, m, n, D, Pl, hcs, _, hl, hm, hmm, _, hi⟩
  · simp [Value.cells] at hcs
    obtain ⟨rfl, rfl, rfl⟩ := hcs
    exact ⟨Nat.le_refl _, by simp [maxLen], fun i hi => absurd hi (Nat.not_lt_zero i)⟩
  · simp [Value.cells] at hcs
    obtain ⟨rfl, rfl, rfl⟩ := hcs
    simp only [if_true] at hmm
    refine ⟨hl, hm, fun i hil => ⟨a, rfl, fun j f hj => ?_⟩⟩
    obtain ⟨cs, hc, ht'⟩ := hi i (by omega)
    rw [hC] at hc
    obtain ⟨ys, n', _, _, hlen, hyl, hf⟩ := DataW.trod_struct he ht'
    obtain ⟨_, hcl, hat⟩ := World.cells?_some hc
    obtain ⟨ho, hk⟩ := hone_of hone j f hj
    have hjl : j < fs.size := (Array.getElem?_eq_some_iff.1 hj).1
    have h1 := hf j f hj
    rw [ho, hk, take1_drop cs j undef (by omega), List.getElem?_eq_getElem (by omega)] at h1
    refine ⟨_, _, n', ?_, h1⟩
    rw [← Go.Deep.add_add, hat j hjl, List.getElem?_eq_getElem (by omega)]
    simp [List.getD, List.getElem?_eq_getElem (show j < cs.length by omega)]

/-- an integer's cell -/
theorem trod_int_cell {t : TypeId} {k : IntKind} {n : Nat} {v : Value} {y : DataW H × List MemPlace} (ht : P.underlying t = some (.int k)) (h : DataW.trod enc P w base (fun _ => true) held n t [v] = some y) :
    ∃ z, v = .int k z ∧ (Lit.int k z).wf = true := by
  obtain ⟨z, e0, _, hw⟩ := DataW.trod_int ht h
  exact ⟨z, by simpa using e0, hw⟩

/-- a bool's cell -/
theorem trod_bool_cell {t : TypeId} {n : Nat} {v : Value} {y : DataW H × List MemPlace} (ht : P.underlying t = some .bool) (h : DataW.trod enc P w base (fun _ => true) held n t [v] = some y) :
    ∃ z, v = .bool z := by
  obtain ⟨z, e0, _⟩ := DataW.trod_bool ht h
  exact ⟨z, by simpa using e0⟩

/-- a row of integers -/
def Ints (w : World) (k : IntKind) (v : Value) (zs : List Int) : Prop :=
  ∃ ad c, v = .slice ad zs.length c ∧ zs.length ≤ c ∧ c ≤ maxLen ∧ (∀ i z, zs[i]? = some z → ∃ b o, ad = some ⟨b, o, none⟩ ∧ w.cell? ⟨b, o + i, none⟩ = some (.int k z)) ∧ ∀ z ∈ zs, (Lit.int k z).wf = true

theorem add_plain' (b o k : Nat) : (⟨b, o, none⟩ : Addr).add k = ⟨b, o + k, none⟩ := by unfold Addr.add; split <;> simp_all

theorem open_int_row {t e : TypeId} {k : IntKind} {fuel : Nat} {a0 : Option Addr} {len cap : Nat} {x : DataW H × List MemPlace} (ht : P.underlying t = some (.slice e)) (he : P.underlying e = some (.int k))
    (hC : P.cellsOf e = 1) (h : DataW.trod enc P w base (fun _ => true) held fuel t (Value.cells (.slice a0 len cap)).toList = some x) : ∃ zs, zs.length = len ∧ Ints w k (.slice a0 len cap) zs := by
  rcases open_ints ht he hC h with ⟨hcs, _⟩ | ⟨a, l, c, zs, hcs, _, hl, hm, hz, _, hcell, hwz⟩
  · simp [Value.cells] at hcs
    obtain ⟨rfl, rfl, rfl⟩ := hcs
    exact ⟨[], rfl, none, 0, rfl, Nat.le_refl _, by simp [maxLen], by simp, by simp⟩
  · simp [Value.cells] at hcs
    obtain ⟨rfl, rfl, rfl⟩ := hcs
    simp only [if_true] at hz
    refine ⟨zs.take len, by simp; omega, some a, cap, by simp; omega, by simp; omega, hm, fun i z hi => ?_, fun z hm => hwz z (List.mem_of_mem_take hm)⟩
    rw [List.getElem?_take] at hi
    split at hi
    · rename_i hil
      have hlt : i < zs.length := (List.getElem?_eq_some_iff.1 hi).1
      obtain ⟨b, o, spot⟩ := a
      have hspot : spot = none := by
        have := World.cell?_spot (hcell 0 (by omega))
        simpa [Addr.add] using this
      subst hspot
      refine ⟨b, o, rfl, ?_⟩
      have := hcell i hlt
      rw [add_plain'] at this
      rw [this]
      simp [List.getD, hi]
    · cases hi

/-- a row of bools -/
def Bools (w : World) (v : Value) (n : Nat) : Prop := ∃ ad c, v = .slice ad n c ∧ ∀ i, i < n → ∃ b o z, ad = some ⟨b, o, none⟩ ∧ w.cell? ⟨b, o + i, none⟩ = some (.bool z)

theorem open_bool_row {t e : TypeId} {fuel : Nat} {a0 : Option Addr} {len cap : Nat} {x : DataW H × List MemPlace} (ht : P.underlying t = some (.slice e)) (he : P.underlying e = some .bool)
    (hC : P.cellsOf e = 1) (h : DataW.trod enc P w base (fun _ => true) held fuel t (Value.cells (.slice a0 len cap)).toList = some x) : len ≤ cap ∧ cap ≤ maxLen ∧ (a0 = none → cap = 0) ∧ Bools w (.slice a0 len cap) len := by
  rcases open_slice ht h with ⟨hcs, _⟩ | ⟨a, l, c, m, n, D, Pl, hcs, _, hl, hm, hmm, _, hi⟩
  · simp [Value.cells] at hcs
    obtain ⟨rfl, rfl, rfl⟩ := hcs
    exact ⟨Nat.le_refl _, by simp [maxLen], fun _ => rfl, none, 0, rfl, fun i hi => absurd hi (Nat.not_lt_zero i)⟩
  · simp [Value.cells] at hcs
    obtain ⟨rfl, rfl, rfl⟩ := hcs
    simp only [if_true] at hmm
    refine ⟨hl, hm, (fun h => by cases h), some a, cap, rfl, fun i hil => ?_⟩
    have key : ∀ i, i < len → ∃ z, w.cell? (a.add i) = some (.bool z) := by
      intro i hil
      obtain ⟨cs, hc, ht'⟩ := hi i (by omega)
      rw [hC] at hc
      obtain ⟨_, hcl, hat⟩ := World.cells?_some hc
      obtain ⟨z, hz, _⟩ := DataW.trod_bool he ht'
      have := hat 0 (by omega)
      rw [hz] at this
      refine ⟨z, ?_⟩
      rw [addr_add_zero, Nat.mul_one] at this
      exact this
    obtain ⟨b, o, spot⟩ := a
    have hspot : spot = none := by
      obtain ⟨z, hz⟩ := key 0 (by omega)
      have := World.cell?_spot hz
      simpa [Addr.add] using this
    subst hspot
    obtain ⟨z, hz⟩ := key i hil
    rw [add_plain'] at hz
    exact ⟨b, o, z, rfl, hz⟩
end

/-- a row of truths as a list -/
theorem rd_of_bools {w : World} {a : Option Addr} {n c : Nat} (hl : n ≤ c) (h0 : a = none → c = 0) (h : Bools w (.slice a n c) n) : ∃ bs : List Bool, bs.length = n ∧ Rd w 1 (.slice a n c) n (bs.map .bool) := by
  obtain ⟨ad, c', hv, hx⟩ := h
  simp only [Value.slice.injEq] at hv
  obtain ⟨rfl, _, rfl⟩ := hv
  let f : Nat → Bool := fun i => match a with
    | some ad => match w.cell? (ad.add i) with
      | some (.bool z) => z
      | _ => false
    | none => false
  refine ⟨(List.range n).map f, by simp, a, c, rfl, hl, by simp, h0, fun j u hu => ?_⟩
  rw [List.map_map, List.getElem?_map] at hu
  cases hj : (List.range n)[j]? with
  | none => rw [hj] at hu; simp at hu
  | some i =>
    rw [hj] at hu
    obtain ⟨hj1, hj2⟩ := List.getElem?_eq_some_iff.1 hj
    simp at hj1 hj2
    subst hj2
    obtain ⟨b, o, z, rfl, hc⟩ := hx j hj1
    refine ⟨_, rfl, ?_⟩
    rw [add_plain', hc]
    simp only [Option.map_some, Function.comp, Option.some.injEq] at hu
    rw [← hu]
    show some (Value.bool z) = some (.bool (f j))
    have : f j = z := by
      show (match w.cell? ((⟨b, o, none⟩ : Addr).add j) with | some (.bool z) => z | _ => false) = z
      rw [add_plain', hc]
    rw [this]
end Go.Proofs.Ytcnnibhipjkgiaa
