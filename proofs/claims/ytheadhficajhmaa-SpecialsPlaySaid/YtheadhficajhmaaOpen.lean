/-
  Arguments that came in: slices of structs of plain fields, opened to their cells.
-/
import Derived.Test.YtheadhficajhmaaMem
import Derived.ProofKit
import Derived.OpenShut
import Derived.ShutString
import Derived.ChangeOld
import Derived.Deep.Slices
import Derived.Deep.Fields
namespace Go.Proofs.Ytheadhficajhmaa
open Go.ChangeShapes Go.WideShapes Go.ChangeAt Go.RowKit Go.Deep

theorem Try.own' : ownKnob Try.prog.godebug = none := by kernel_rfl
theorem Try.laidOut' : laidOutB Try.prog = true := by kernel_rfl

section
variable {H : Type} {enc : TypeId × Value → H} {P : Program} {w : World} {base : Nat} {held : Bool}

/-- a slice of structs whose fields are one cell each: every field of every element is there, and reads -/
theorem open_structs {t e : TypeId} {fs : Array Field} {fuel : Nat} {a0 : Option Addr} {len cap : Nat} {x : DataW H × List MemPlace} (ht : P.underlying t = some (.slice e)) (he : P.underlying e = some (.struct fs))
    (hone : oneCellFields P fs = true) (hC : P.cellsOf e = fs.size) (h : DataW.trod enc P w base (fun _ => true) held fuel t (Value.cells (.slice a0 len cap)).toList = some x) :
    len ≤ cap ∧ cap ≤ maxLen ∧ ∀ i, i < len → ∃ a, a0 = some a ∧ ∀ (j : Nat) (f : Field), fs[j]? = some f → ∃ (v : Value) (y : DataW H × List MemPlace) (n : Nat),
      w.cell? (a.add (i * fs.size + j)) = some v ∧ DataW.trod enc P w base (fun _ => true) held n f.type [v] = some y := by
  rcases open_slice ht h with ⟨hcs, _⟩ | ⟨a, l, c, m, n, D, Pl, hcs, _, hl, hm, hmm, _, hi⟩
  · simp [Value.cells] at hcs
    obtain ⟨rfl, rfl, rfl⟩ := hcs
    exact ⟨Nat.le_refl _, by simp [maxLen], fun i hi => absurd hi (Nat.not_lt_zero i)⟩
  · simp [Value.cells] at hcs
    obtain ⟨rfl, rfl, rfl⟩ := hcs
    simp only [if_true] at hmm
    refine ⟨hl, hm, fun i hil => ⟨a, rfl, fun j f hj => ?_⟩⟩
    obtain ⟨cs, hc, ht'⟩ := hi i (by omega)
    rw [hC] at hc
    obtain ⟨ys, n', _, _, hlen, hyl, hf⟩ := DataW.trod_struct he ht'
    obtain ⟨_, hcl, hat⟩ := World.cells?_some hc
    obtain ⟨ho, hk⟩ := hone_of hone j f hj
    have hjl : j < fs.size := (Array.getElem?_eq_some_iff.1 hj).1
    have h1 := hf j f hj
    rw [ho, hk, take1_drop cs j undef (by omega), List.getElem?_eq_getElem (by omega)] at h1
    refine ⟨_, _, n', ?_, h1⟩
    rw [← Go.Deep.add_add, hat j hjl, List.getElem?_eq_getElem (by omega)]
    simp [List.getD, List.getElem?_eq_getElem (show j < cs.length by omega)]

/-- an integer's cell -/
theorem trod_int_cell {t : TypeId} {k : IntKind} {n : Nat} {v : Value} {y : DataW H × List MemPlace} (ht : P.underlying t = some (.int k)) (h : DataW.trod enc P w base (fun _ => true) held n t [v] = some y) :
    ∃ z, v = .int k z ∧ (Lit.int k z).wf = true := by
  obtain ⟨z, e0, _, hw⟩ := DataW.trod_int ht h
  exact ⟨z, by simpa using e0, hw⟩

/-- a bool's cell -/
theorem trod_bool_cell {t : TypeId} {n : Nat} {v : Value} {y : DataW H × List MemPlace} (ht : P.underlying t = some .bool) (h : DataW.trod enc P w base (fun _ => true) held n t [v] = some y) :
    ∃ z, v = .bool z := by
  obtain ⟨z, e0, _⟩ := DataW.trod_bool ht h
  exact ⟨z, by simpa using e0⟩
end
end Go.Proofs.Ytheadhficajhmaa
