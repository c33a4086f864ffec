/-
  What the sets' own words look at.
-/
import Derived.Test.YtanaicjeheacoaaLeast
import Derived.Test.YtanaicjeheacoaaRow
namespace Go.Proofs.Ytanaicjeheacoaa
open Go.RowKit Go.Deep

theorem blk6 {w : World} {b : Nat} {x0 x1 x2 x3 x4 x5 : Value} {t : TypeId} (h : w.heap[b]? = some (.cells #[x0, x1, x2, x3, x4, x5] t (0, 0))) :
    w.cell? ⟨b, 0, none⟩ = some x0 ∧ w.cell? ⟨b, 1, none⟩ = some x1 ∧ w.cell? ⟨b, 2, none⟩ = some x2 ∧ w.cell? ⟨b, 3, none⟩ = some x3 ∧ w.cell? ⟨b, 4, none⟩ = some x4 ∧ w.cell? ⟨b, 5, none⟩ = some x5 :=
  ⟨cell_blk h 0, cell_blk h 1, cell_blk h 2, cell_blk h 3, cell_blk h 4, cell_blk h 5⟩

theorem zero_item (w : World) : (zeroValue 54).run Try.prog w = .ok (.pointer none) w := by
  have h : (Try.prog.info? 54).map (·.zero) = some (some (.pointer none)) := by kernel_rfl
  cases hi : Try.prog.info? 54 with
  | none => rw [hi] at h; simp at h
  | some i =>
    rw [hi] at h
    simp only [Option.map_some, Option.some.injEq] at h
    simp [zeroValue, run_typeInfo w hi, h, Sem.run_bind, Result.andThen]

/-- a span by its number -/
theorem Sets.find {w : World} {s m1 m2 m3 : Nat} {i1 i2 : List (Int × Value)} {i3 : List (Kd × Value)} {L : List It} (h : Sets w s m1 m2 m3 i1 i2 i3 L) {x : It} (hx : x ∈ L) : (mapGet i1 x.id).getD (.pointer none) = .pointer (some ⟨x.b, 0, none⟩) := by
  rw [(mapGet_some h.ids.nodup).2 ((h.idsL _ _).2 ⟨x, hx, rfl, rfl⟩)]; rfl
theorem Sets.find_none {w : World} {s m1 m2 m3 : Nat} {i1 i2 : List (Int × Value)} {i3 : List (Kd × Value)} {L : List It} (h : Sets w s m1 m2 m3 i1 i2 i3 L) {z : Int} (hz : ∀ x ∈ L, x.id ≠ z) : (mapGet i1 z).getD (.pointer none) = .pointer none := by
  rw [mapGet_none.2]; rfl
  intro hm
  obtain ⟨⟨k, v⟩, hp, rfl⟩ := List.mem_map.1 hm
  obtain ⟨x, hx, h1, _⟩ := (h.idsL _ _).1 hp
  exact hz x hx h1
theorem Sets.at {w : World} {s m1 m2 m3 : Nat} {i1 i2 : List (Int × Value)} {i3 : List (Kd × Value)} {L : List It} (h : Sets w s m1 m2 m3 i1 i2 i3 L) {x : It} (hx : x ∈ L) : (mapGet i2 x.base).getD (.pointer none) = .pointer (some ⟨x.b, 0, none⟩) := by
  rw [(mapGet_some h.bases.nodup).2 ((h.basesL _ _).2 ⟨x, hx, rfl, rfl⟩)]; rfl
theorem Sets.at_none {w : World} {s m1 m2 m3 : Nat} {i1 i2 : List (Int × Value)} {i3 : List (Kd × Value)} {L : List It} (h : Sets w s m1 m2 m3 i1 i2 i3 L) {z : Int} (hz : ∀ x ∈ L, x.base ≠ z) : (mapGet i2 z).getD (.pointer none) = .pointer none := by
  rw [mapGet_none.2]; rfl
  intro hm
  obtain ⟨⟨k, v⟩, hp, rfl⟩ := List.mem_map.1 hm
  obtain ⟨x, hx, h1, _⟩ := (h.basesL _ _).1 hp
  exact hz x hx h1

theorem remove_none {s m1 m2 m3 : Nat} {i1 i2 : List (Int × Value)} {i3 : List (Kd × Value)} {L : List It} (w : World) (h : Sets w s m1 m2 m3 i1 i2 i3 L) (z : Int) (hz : ∀ x ∈ L, x.id ≠ z) :
    Calls Try.prog 11 #[.pointer (some ⟨s, 0, none⟩), .int .i64 z] w fun e w' => e = .returned (.int .i64 35) ∧ w = w' := by
  have c1 := (blk3 h.core.root).1
  have hm := Lib.hid h.ids
  have hg := Lib.hid (h.find_none hz)
  clear h hz
  go_enter Try.func11, Try.ntmps11
  go_wp2_with (refine wpList_map_lookup (by rfl) keyLaw_i Try.underlying49 _ _ false (by rfl) hm.out z (.pointer none) zero_item (by rfl) (by rfl) ?_; simp only [hg.out, Bool.false_eq_true, if_false])
  go_ret
  exact ⟨rfl, rfl⟩
end Go.Proofs.Ytanaicjeheacoaa
