/-
  A slice of rows of truths that came in.
-/
import Derived.Test.YtcnnibhipjkgiaaOver
import Derived.Deep.Grids
namespace Go.Proofs.Ytcnnibhipjkgiaa
open Go.ChangeShapes Go.WideShapes Go.ChangeAt Go.RowKit Go.Deep
variable {H : Type} {enc : TypeId × Value → H} {P : Program} {w : World} {base : Nat} {held : Bool}

theorem open_grid {t e q : TypeId} {fuel : Nat} {a0 : Option Addr} {len cap : Nat} {x : DataW H × List MemPlace} (ht : P.underlying t = some (.slice e)) (he : P.underlying e = some (.slice q)) (hq : P.underlying q = some .bool)
    (ce : P.cellsOf e = 1) (cq : P.cellsOf q = 1) (h : DataW.trod enc P w base (fun _ => true) held fuel t (Value.cells (.slice a0 len cap)).toList = some x) :
    ∃ rows : List (List Bool), rows.length = len ∧ Grid w (.slice a0 len cap) rows ∧ len ≤ 9223372036854775807 := by
  rcases open_bool_rows ht he hq ce cq h with ⟨hcs, _⟩ | ⟨a, l, c, A, L, C, B, hcs, _, hl, hm, _, hr⟩
  · simp [Value.cells] at hcs
    obtain ⟨rfl, rfl, rfl⟩ := hcs
    exact ⟨[], rfl, ⟨none, 0, rfl, fun i bs h => by simp at h⟩, by omega⟩
  · simp [Value.cells] at hcs
    obtain ⟨rfl, rfl, rfl⟩ := hcs
    refine ⟨(List.range len).map (fun r => (List.range (L r)).map (B r)), by simp, ⟨some a, cap, by simp, fun i bs hi => ?_⟩, by simp only [maxLen] at hm; omega⟩
    have hil : i < len := by have := (List.getElem?_eq_some_iff.1 hi).1; simpa using this
    rw [List.getElem?_map, List.getElem?_range hil] at hi
    simp only [Option.map_some, Option.some.injEq] at hi
    obtain ⟨h1, h2, h3, h4, h5⟩ := hr i (by omega)
    obtain ⟨b, o, spot⟩ := a
    have hspot : spot = none := by
      have := World.cell?_spot (hr 0 (by omega)).1
      simpa [Addr.add] using this
    subst hspot
    rw [add_plain'] at h1
    have hbl : bs.length = L i := by rw [← hi]; simp
    refine ⟨b, o, rfl, A i, C i, by rw [hbl]; exact h1, ?_, by rw [hbl]; simp only [maxLen] at h3; omega⟩
    refine ⟨A i, C i, rfl, by rw [hbl]; exact h2, by simp, h4, fun j u hu => ?_⟩
    rw [← hi, List.map_map, List.getElem?_map] at hu
    have hj : j < L i := by
      rcases Nat.lt_or_ge j (L i) with h | h
      · exact h
      · rw [List.getElem?_eq_none (by simpa using h)] at hu; simp at hu
    rw [List.getElem?_range hj] at hu
    simp only [Option.map_some, Function.comp, Option.some.injEq] at hu
    cases hA : A i with
    | none => have := h4 hA; omega
    | some a' =>
      refine ⟨a', rfl, ?_⟩
      rw [← hu]
      exact (h5 a' hA).2 j (by omega)
end Go.Proofs.Ytcnnibhipjkgiaa
