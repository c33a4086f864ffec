/-
  Part 10 of what the statement leans on: Least, Eyes, Turn, Entry, Remove, Take, Put, Shift, PutDone, PutOk, Own.
-/
import Derived.Test.YtnjaaagiindclaaGreatDoorPk1
import Derived.Test.YtnjaaagiindclaaGreatDoorPk9
import Derived.Deep.RegionHeld3
import Derived.Deep.RegionWith
import Derived.Laws.CopyRow
import Derived.Laws.IdiomCopy
/-
  The least span that is not swept.
-/
namespace Go.Proofs.YtnjaaagiindclaaGreatDoor
open Go.RowKit Go.Deep

/-- the best so far, of some kinds -/
def Best (L : List It) (D : List Kd) : Option It → Prop
  | none => ∀ x ∈ L, x.kd ∈ D → x.kd.2.2.2 = true
  | some y => y ∈ L ∧ y.kd.2.2.2 = false ∧ ∀ x ∈ L, x.kd ∈ D → x.kd.2.2.2 = false → y.base ≤ x.base

def lv (o : Option It) : Option Addr := o.map (fun y => ⟨y.b, 0, none⟩)

theorem Best.skip {L : List It} {D : List Kd} {o : Option It} {k : Kd} (h : Best L D o) (hk : ∀ x ∈ L, x.kd = k → x.kd.2.2.2 = false → ∃ y, o = some y ∧ y.base ≤ x.base) : Best L (k :: D) o := by
  cases o with
  | none =>
    intro x hx hD
    rcases List.mem_cons.1 hD with hD | hD
    · cases hs : x.kd.2.2.2 with
      | true => rfl
      | false => obtain ⟨y, hy, _⟩ := hk x hx hD hs; simp at hy
    · exact h x hx hD
  | some y =>
    refine ⟨h.1, h.2.1, fun x hx hD hs => ?_⟩
    rcases List.mem_cons.1 hD with hD | hD
    · obtain ⟨y', hy, h1⟩ := hk x hx hD hs
      cases hy; exact h1
    · exact h.2.2 x hx hD hs

theorem Best.take {L : List It} {D : List Kd} {o : Option It} {k : Kd} {z : It} (h : Best L D o) (hz : z ∈ L) (hzs : z.kd.2.2.2 = false) (hk : ∀ x ∈ L, x.kd = k → z.base ≤ x.base) (ho : ∀ y, o = some y → z.base < y.base) : Best L (k :: D) (some z) := by
  refine ⟨hz, hzs, fun x hx hD hs => ?_⟩
  rcases List.mem_cons.1 hD with hD | hD
  · exact hk x hx hD
  · cases o with
    | none => have := h x hx hD; rw [hs] at this; simp at this
    | some y => have := h.2.2 x hx hD hs; have := ho y rfl; omega

/-- what Least answers -/
def Leasts (L : List It) (id : Int) (ok : Bool) : Prop := (ok = false ∧ id = 0 ∧ ∀ x ∈ L, x.kd.2.2.2 = true) ∨ (ok = true ∧ ∃ y ∈ L, y.id = id ∧ y.kd.2.2.2 = false ∧ ∀ x ∈ L, x.kd.2.2.2 = false → y.base ≤ x.base)

theorem row_head {L : List It} {k : Kd} {x : It} {r : List It} (h : RowOf L k (x :: r)) : x ∈ L ∧ x.kd = k ∧ ∀ y ∈ L, y.kd = k → x.base ≤ y.base := by
  obtain ⟨h1, h2⟩ := (h.mem x).1 (by simp)
  refine ⟨h1, h2, fun y hy hk => ?_⟩
  rcases List.mem_cons.1 ((h.mem y).2 ⟨hy, hk⟩) with rfl | hm
  · exact Int.le_refl _
  · have := (List.pairwise_cons.1 h.ord).1 y hm; omega

theorem row_first {w : World} {B T n c : Nat} {a : Option Addr} {x : It} {r : List It} (h : w.ownsRow B T 1 (.slice a n c) n ((x :: r).map It.ptr)) : ∃ g, a = some ⟨g, 0, none⟩ ∧ w.cell? ⟨g, 0, none⟩ = some (.pointer (some ⟨x.b, 0, none⟩)) := by
  rcases h with ⟨hl, ⟨hv, rfl⟩ | ⟨g, cap, cur, hv, hg, hb, hn, hcm, hcs, ht⟩⟩
  · simp at hl
  · simp only [Value.slice.injEq] at hv
    obtain ⟨rfl, _, rfl⟩ := hv
    refine ⟨g, rfl, ?_⟩
    have := congrArg (fun l => l[0]?) ht
    simp only [List.map_cons, List.getElem?_cons_zero, List.getElem?_take] at this
    rw [cell_blk hb]
    simp at this
    simpa [It.ptr] using this.2

set_option maxRecDepth 100000 in
set_option maxHeartbeats 4000000 in
theorem least_any {s m1 m2 m3 : Nat} {i3 : List (Kd × Value)} {L : List It} (w : World) (h : Core w s m1 m2 m3 i3 L) (hL : L.length ≤ 1000000) :
    Calls Tryz.prog 177 #[.pointer (some ⟨s, 0, none⟩)] w fun e w' => ∃ id ok, e = .returned (.tuple #[.int .i64 id, .bool ok]) ∧ Leasts L id ok ∧ Fr (fun _ => False) w w' := by
  have c3 := (blk3 h.root).2.2
  have hlt := h.sets.lt
  have hm := Lib.hid h.sets
  have H := Lib.hid h
  clear h
  go_enter Tryz.func177, Tryz.ntmps177
  go_wp2_with (refine wpList_iter_new (by rfl) Tryz.underlying161 _ (by rfl) hm.out (by rfl) ?_; intro oo hit; go_simp)
  have hne : w.heap.size ≠ m3 := by omega
  have hlt := Lib.hid hlt
  go_loopg [4] i3.length (fun k n wr => ∃ (av : Option Addr) , n = .pointer av ∧ Hid (∃ (D : List Kd) (o : Option It), av = lv o ∧ Best L D o ∧ Went wr s m1 m2 m3 w.heap.size i3 L w D k))
  case atStart => exact ⟨none, rfl, Lib.hid ⟨[], none, rfl, fun x _ hx => by simp at hx, hit, by simp, by simp, by simp, (Fr.refl _ w).alloc oo⟩⟩
  case round =>
    obtain ⟨av, rfl, hD0⟩ := hrel
    obtain ⟨D, o, rfl, hb0, hw0⟩ := hD0.out
    have HB := Lib.hid hb0
    have HW := Lib.hid hw0
    clear hit hD0 hb0 hw0
    rcases run_iter_next (P := Tryz.prog) HW.out.iter hne 0 with ⟨hall, hr⟩ | ⟨⟨⟨pk1, pk2, pk3, pk4⟩, pv⟩, hp, hpd, wn, hr, hk1, hk2, hk3⟩
    · have hall2 : ∀ x ∈ L, x.kd ∈ D := fun x hx => by obtain ⟨p, hp, he⟩ := List.mem_map.1 (H.out.all x hx); rw [← he]; exact hall p hp
      have F := Lib.hid HW.out.fr
      cases o with
      | none =>
        have Z := Lib.hid (show Leasts L 0 false from .inl ⟨rfl, rfl, fun x hx => HB.out x hx (hall2 x hx)⟩)
        clear hall hall2 HW HB
        simp only [lv, Option.map_none]
        go_wp2_with (refine wpList_next_run (by rfl) _ (by rfl) (by rfl) hr ?_; clear hr)
        go_ret2
        exact ⟨_, _, rfl, Z.out, F.out⟩
      | some y =>
        have Z := Lib.hid (show Leasts L y.id true from .inr ⟨rfl, y, HB.out.1, rfl, HB.out.2.1, fun x hx hs => HB.out.2.2 x hx (hall2 x hx) hs⟩)
        have y0 : wr.cell? ⟨y.b, 0, none⟩ = some (.int .i64 y.id) := cell_blk (c := y.cells) (F.out.at (H.out.node y HB.out.1) (fun x => x)) 0
        clear hall hall2 HW HB
        simp only [lv, Option.map_some]
        go_wp2_with (refine wpList_next_run (by rfl) _ (by rfl) (by rfl) hr ?_; clear hr)
        go_ret2
        exact ⟨_, _, rfl, Z.out, F.out⟩
    · obtain ⟨r, hro, how⟩ := H.out.row _ _ hp
      obtain ⟨ra, rc, rfl⟩ := ownsRow_form how
      have hst := Lib.hid (HW.out.step (Nat.le_refl _) hp hpd hk1 hk2)
      have hrl : r.length ≤ 1000000 := Nat.le_trans (by rw [row_len hro H.out.ndb]; exact List.length_filter_le _ _) hL
      have fn : Fr (fun _ => False) w wn := HW.out.fr.trans hk2 (fun b hb he => by omega)
      have how' := ownsRow_keep how fn (fun _ _ x => x)
      have hnode : ∀ x ∈ L, wn.cell? ⟨x.b, 1, none⟩ = some (.int .u64 x.base) ∧ x.b < wn.heap.size := fun x hx => ⟨cell_blk (c := x.cells) (fn.at (H.out.node x hx) (fun x => x)) 1, lt_blk (fn.at (H.out.node x hx) (fun x => x))⟩
      have hnode := Lib.hid hnode
      clear hp hpd hk1 hk2 how fn
      simp only [kenc] at hr hk3
      cases pk4 with
      | true =>
        have HB2 := Lib.hid (HB.out.skip (k := (pk1, pk2, pk3, true)) (fun x _ hx hs => by rw [hx] at hs; simp at hs))
        clear hro how'
        go_wp2_with (first | (refine wpList_next_run (by rfl) _ (by rfl) (by rfl) hr ?_; clear hr) | (refine wpList_entry (by rfl) _ (by rfl) (by rfl) hk3 ?_; clear hk3))
        go_quiet (fail)
        go_wp2
        go_roundg (gk - 1)
        case measure => have := hst.out.2; omega
        case rel => exact ⟨_, rfl, Lib.hid ⟨_, o, rfl, HB2.out, (hst.out.1.fr' ((Fr.refl _ wn).alloc _)).fr' (Fr.of_drewN _ _ _)⟩⟩
      | false =>
        cases r with
        | nil =>
          have HB2 := Lib.hid (HB.out.skip (k := (pk1, pk2, pk3, false)) (fun x hx hk _ => absurd ((hro.mem x).2 ⟨hx, hk⟩) (by simp)))
          clear hro how'
          go_wp2_with (first | (refine wpList_next_run (by rfl) _ (by rfl) (by rfl) hr ?_; clear hr) | (refine wpList_entry (by rfl) _ (by rfl) (by rfl) hk3 ?_; clear hk3))
          go_quiet (fail)
          go_wp2
          go_roundg (gk - 1)
          case measure => have := hst.out.2; omega
          case rel => exact ⟨_, rfl, Lib.hid ⟨_, o, rfl, HB2.out, (hst.out.1.fr' ((Fr.refl _ wn).alloc _)).fr' (Fr.of_drewN _ _ _)⟩⟩
        | cons x r =>
          obtain ⟨hx1, hx2, hx3⟩ := row_head hro
          obtain ⟨g, rfl, e0⟩ := row_first how'
          obtain ⟨e1, hxb⟩ := hnode.out x hx1
          have hgb := World.block_lt_of_cell? _ _ e0
          simp only at hgb
          have hrl2 : 0 < (x :: r).length := by simp
          have hrl3 : decide ((0 : Int) < ((x :: r).length : Int)) = true := by simp only [decide_eq_true_eq]; omega
          generalize (x :: r).length = n at *
          have X3 := Lib.hid hx3
          have X2 := Lib.hid hx2
          have XS : x.kd.2.2.2 = false := by rw [hx2]
          have XS := Lib.hid XS
          clear hx3 hx2 hro how'
          cases o with
          | none =>
            have HB2 := Lib.hid (HB.out.take (k := (pk1, pk2, pk3, false)) hx1 XS.out (fun y hy hk => X3.out y hy hk) (fun y hy => by simp at hy))
            simp only [lv, Option.map_none]
            go_wp2_with (first | (refine wpList_next_run (by rfl) _ (by rfl) (by rfl) hr ?_; clear hr) | (refine wpList_entry (by rfl) _ (by rfl) (by rfl) hk3 ?_; clear hk3))
            go_quiet (fail)
            go_wp2
            go_roundg (gk - 1)
            case measure => have := hst.out.2; omega
            case rel => exact ⟨_, rfl, Lib.hid ⟨_, some x, rfl, HB2.out, (hst.out.1.fr' ((Fr.refl _ wn).alloc _)).fr' (Fr.of_drewN _ _ _)⟩⟩
          | some y =>
            obtain ⟨e2, hyb⟩ := hnode.out y HB.out.1
            simp only [lv, Option.map_some]
            by_cases hlt : x.base < y.base
            · have HB2 := Lib.hid (HB.out.take (k := (pk1, pk2, pk3, false)) hx1 XS.out (fun y hy hk => X3.out y hy hk) (fun z hz => by cases hz; exact hlt))
              go_wp2_with (first | (refine wpList_next_run (by rfl) _ (by rfl) (by rfl) hr ?_; clear hr) | (refine wpList_entry (by rfl) _ (by rfl) (by rfl) hk3 ?_; clear hk3))
              go_quiet (fail)
              go_wp2
              go_roundg (gk - 1)
              case measure => have := hst.out.2; omega
              case rel => exact ⟨_, rfl, Lib.hid ⟨_, some x, rfl, HB2.out, (hst.out.1.fr' ((Fr.refl _ wn).alloc _)).fr' (Fr.of_drewN _ _ _)⟩⟩
            · have HB2 := Lib.hid (HB.out.skip (k := (pk1, pk2, pk3, false)) (fun z hz hk _ => ⟨y, rfl, by have := X3.out z hz hk; omega⟩))
              go_wp2_with (first | (refine wpList_next_run (by rfl) _ (by rfl) (by rfl) hr ?_; clear hr) | (refine wpList_entry (by rfl) _ (by rfl) (by rfl) hk3 ?_; clear hk3))
              go_quiet (fail)
              go_wp2
              go_roundg (gk - 1)
              case measure => have := hst.out.2; omega
              case rel => exact ⟨_, rfl, Lib.hid ⟨_, some y, rfl, HB2.out, (hst.out.1.fr' ((Fr.refl _ wn).alloc _)).fr' (Fr.of_drewN _ _ _)⟩⟩
end Go.Proofs.YtnjaaagiindclaaGreatDoor

/-
  What the sets' own words look at.
-/
namespace Go.Proofs.YtnjaaagiindclaaGreatDoor
open Go.RowKit Go.Deep

theorem blk6 {w : World} {b : Nat} {x0 x1 x2 x3 x4 x5 : Value} {t : TypeId} (h : w.heap[b]? = some (.cells #[x0, x1, x2, x3, x4, x5] t (0, 0))) :
    w.cell? ⟨b, 0, none⟩ = some x0 ∧ w.cell? ⟨b, 1, none⟩ = some x1 ∧ w.cell? ⟨b, 2, none⟩ = some x2 ∧ w.cell? ⟨b, 3, none⟩ = some x3 ∧ w.cell? ⟨b, 4, none⟩ = some x4 ∧ w.cell? ⟨b, 5, none⟩ = some x5 :=
  ⟨cell_blk h 0, cell_blk h 1, cell_blk h 2, cell_blk h 3, cell_blk h 4, cell_blk h 5⟩

theorem zero_item (w : World) : (zeroValue 158).run Tryz.prog w = .ok (.pointer none) w := by
  have h : (Tryz.prog.info? 158).map (·.zero) = some (some (.pointer none)) := by kernel_rfl
  cases hi : Tryz.prog.info? 158 with
  | none => rw [hi] at h; simp at h
  | some i =>
    rw [hi] at h
    simp only [Option.map_some, Option.some.injEq] at h
    simp [zeroValue, run_typeInfo w hi, h, Sem.run_bind, Result.andThen]

/-- a span by its number -/
theorem Sets.find {w : World} {s m1 m2 m3 : Nat} {i1 i2 : List (Int × Value)} {i3 : List (Kd × Value)} {L : List It} (h : Sets w s m1 m2 m3 i1 i2 i3 L) {x : It} (hx : x ∈ L) : (mapGet i1 x.id).getD (.pointer none) = .pointer (some ⟨x.b, 0, none⟩) := by
  rw [(mapGet_some h.ids.nodup).2 ((h.idsL _ _).2 ⟨x, hx, rfl, rfl⟩)]; rfl
theorem Sets.find_none {w : World} {s m1 m2 m3 : Nat} {i1 i2 : List (Int × Value)} {i3 : List (Kd × Value)} {L : List It} (h : Sets w s m1 m2 m3 i1 i2 i3 L) {z : Int} (hz : ∀ x ∈ L, x.id ≠ z) : (mapGet i1 z).getD (.pointer none) = .pointer none := by
  rw [mapGet_none.2]; rfl
  intro hm
  obtain ⟨⟨k, v⟩, hp, rfl⟩ := List.mem_map.1 hm
  obtain ⟨x, hx, h1, _⟩ := (h.idsL _ _).1 hp
  exact hz x hx h1
theorem Sets.at {w : World} {s m1 m2 m3 : Nat} {i1 i2 : List (Int × Value)} {i3 : List (Kd × Value)} {L : List It} (h : Sets w s m1 m2 m3 i1 i2 i3 L) {x : It} (hx : x ∈ L) : (mapGet i2 x.base).getD (.pointer none) = .pointer (some ⟨x.b, 0, none⟩) := by
  rw [(mapGet_some h.bases.nodup).2 ((h.basesL _ _).2 ⟨x, hx, rfl, rfl⟩)]; rfl
theorem Sets.at_none {w : World} {s m1 m2 m3 : Nat} {i1 i2 : List (Int × Value)} {i3 : List (Kd × Value)} {L : List It} (h : Sets w s m1 m2 m3 i1 i2 i3 L) {z : Int} (hz : ∀ x ∈ L, x.base ≠ z) : (mapGet i2 z).getD (.pointer none) = .pointer none := by
  rw [mapGet_none.2]; rfl
  intro hm
  obtain ⟨⟨k, v⟩, hp, rfl⟩ := List.mem_map.1 hm
  obtain ⟨x, hx, h1, _⟩ := (h.basesL _ _).1 hp
  exact hz x hx h1

theorem remove_none {s m1 m2 m3 : Nat} {i1 i2 : List (Int × Value)} {i3 : List (Kd × Value)} {L : List It} (w : World) (h : Sets w s m1 m2 m3 i1 i2 i3 L) (z : Int) (hz : ∀ x ∈ L, x.id ≠ z) :
    Calls Tryz.prog 178 #[.pointer (some ⟨s, 0, none⟩), .int .i64 z] w fun e w' => e = .returned (.int .i64 35) ∧ w = w' := by
  have c1 := (blk3 h.core.root).1
  have hm := Lib.hid h.ids
  have hg := Lib.hid (h.find_none hz)
  clear h hz
  go_enter Tryz.func178, Tryz.ntmps178
  go_wp2_with (refine wpList_map_lookup (by rfl) keyLaw_i Tryz.underlying159 _ _ false (by rfl) hm.out z (.pointer none) zero_item (by rfl) (by rfl) ?_; simp only [hg.out, Bool.false_eq_true, if_false])
  go_ret
  exact ⟨rfl, rfl⟩
end Go.Proofs.YtnjaaagiindclaaGreatDoor

/-
  A row of the sets is another one: plain facts.
-/
namespace Go.Proofs.YtnjaaagiindclaaGreatDoor
open Go.RowKit Go.Deep

theorem nodup_inj {α : Type} {l : List α} (h : l.Nodup) {i j : Nat} {a : α} (h1 : l[i]? = some a) (h2 : l[j]? = some a) : i = j := by
  obtain ⟨l1, e1⟩ := List.getElem?_eq_some_iff.1 h1
  obtain ⟨l2, e2⟩ := List.getElem?_eq_some_iff.1 h2
  have hp := List.pairwise_iff_getElem.1 h
  rcases Nat.lt_trichotomy i j with hl | hl | hl
  · exact absurd (e1.trans e2.symm) (hp i j l1 l2 hl)
  · exact hl
  · exact absurd (e2.trans e1.symm) (hp j i l2 l1 hl)

theorem mem_mapSet {κ : Type} [DecidableEq κ] {m : List (κ × Value)} {k : κ} {v : Value} (hn : (m.map (·.1)).Nodup) (p : κ × Value) : p ∈ mapSet m k v ↔ (p = (k, v)) ∨ (p.1 ≠ k ∧ p ∈ m) := by
  by_cases hk : k ∈ m.map (·.1)
  · unfold mapSet
    cases hp : posOf k (m.map (·.1)) with
    | none =>
      exfalso
      have : mapGet m k = none := by unfold mapGet; rw [hp]; rfl
      exact mapGet_none.1 this hk
    | some j =>
      have hj := posOf_some hp
      rw [List.getElem?_map] at hj
      cases hm : m[j]? with
      | none => simp [hm] at hj
      | some q =>
        simp only [hm, Option.map_some, Option.some.injEq] at hj
        have hjl := (List.getElem?_eq_some_iff.1 hm).1
        constructor
        · intro h
          obtain ⟨i, hi⟩ := List.mem_iff_getElem?.1 h
          rw [List.getElem?_set] at hi
          by_cases hij : j = i
          · simp only [hij, if_true] at hi
            split at hi
            · simp only [Option.some.injEq] at hi; exact .inl hi.symm
            · simp at hi
          · rw [if_neg hij] at hi
            refine .inr ⟨fun he => hij ?_, List.mem_of_getElem? hi⟩
            have h1 : (m.map (·.1))[i]? = some k := by rw [List.getElem?_map, hi]; simp [he]
            have h2 : (m.map (·.1))[j]? = some k := by rw [List.getElem?_map, hm]; simp [hj]
            exact nodup_inj hn h2 h1
        · rintro (rfl | ⟨h1, h2⟩)
          · exact List.mem_of_getElem? (i := j) (by rw [List.getElem?_set, if_pos rfl, if_pos hjl])
          · obtain ⟨i, hi⟩ := List.mem_iff_getElem?.1 h2
            refine List.mem_of_getElem? (i := i) ?_
            rw [List.getElem?_set, if_neg ?_]; exact hi
            rintro rfl
            rw [hm] at hi
            simp only [Option.some.injEq] at hi
            subst hi
            exact h1 hj
  · rw [mapSet_new hk]
    simp only [List.mem_append, List.mem_singleton]
    constructor
    · rintro (h | h)
      · exact .inr ⟨fun he => hk (he ▸ List.mem_map_of_mem h), h⟩
      · exact .inl h
    · rintro (h | ⟨_, h⟩)
      · exact .inr h
      · exact .inl h

theorem mem_mapDel {κ : Type} [DecidableEq κ] {m : List (κ × Value)} {k : κ} (hn : (m.map (·.1)).Nodup) (p : κ × Value) : p ∈ mapDel m k ↔ p.1 ≠ k ∧ p ∈ m := by
  rw [mapDel_eq hn]; simp [List.mem_filter, and_comm]

theorem RowOf.other {L L' : List It} {k : Kd} {r : List It} (h : RowOf L k r) (hL : ∀ y, y.kd = k → (y ∈ L' ↔ y ∈ L)) : RowOf L' k r :=
  ⟨h.ord, fun x => by rw [h.mem]; exact ⟨fun ⟨h1, h2⟩ => ⟨(hL x h2).2 h1, h2⟩, fun ⟨h1, h2⟩ => ⟨(hL x h2).1 h1, h2⟩⟩⟩

/-- the value that a kind has, if any, is its row's -/
theorem Core.own {w : World} {s m1 m2 m3 : Nat} {i3 : List (Kd × Value)} {L : List It} (h : Core w s m1 m2 m3 i3 L) {k : Kd} {v : Value} (hv : (mapGet i3 k).getD (.slice none 0 0) = v) {g : Nat} (hg : v.ownBlock = some g) : (k, v) ∈ i3 := by
  cases hm : mapGet i3 k with
  | none => rw [hm] at hv; simp only [Option.getD_none] at hv; subst hv; simp [Value.ownBlock] at hg
  | some u => rw [hm] at hv; simp only [Option.getD_some] at hv; subst hv; exact (mapGet_some h.sets.nodup).1 hm

/-- the row of a kind turns: what the code looks at is as it was -/
theorem Core.past {w w' : World} {s m1 m2 m3 n c n' : Nat} {i3 : List (Kd × Value)} {L : List It} {a : Option Addr} (h : Core w s m1 m2 m3 i3 L) {k : Kd} (hv : (mapGet i3 k).getD (.slice none 0 0) = .slice a n c)
    (hf : Fr (fun b => some b = (Value.slice a n' c).ownBlock) w w') : w'.heap[s]? = some (.cells #[.map (some m1), .map (some m2), .map (some m3)] 163 (0, 0)) ∧ (∀ x ∈ L, w'.heap[x.b]? = some (.cells x.cells 167 (0, 0))) ∧ MapIs kenc w' m3 i3 := by
  have hown : ∀ g, some g = (Value.slice a n' c).ownBlock → (k, Value.slice a n c) ∈ i3 ∧ (Value.slice a n c).ownBlock = some g := fun g hg => by
    have hg' : (Value.slice a n c).ownBlock = some g := by rw [hg]; cases a <;> rfl
    exact ⟨h.own hv hg', hg'⟩
  refine ⟨hf.at h.root (fun hb => ?_), fun x hx => hf.at (h.node x hx) (fun hb => ?_), h.sets.fr hf (fun hb => ?_)⟩
  · obtain ⟨h1, h2⟩ := hown _ hb
    exact (h.sepR _ _ _ h1 h2).1 rfl
  · obtain ⟨h1, h2⟩ := hown _ hb
    exact (h.sepR _ _ _ h1 h2).2 x hx rfl
  · obtain ⟨h1, h2⟩ := hown _ hb
    obtain ⟨r, _, ho⟩ := h.row _ _ h1
    obtain ⟨cur, hc⟩ := ownsRow_blk ho h2
    exact h.sets.ne hc rfl

theorem Core.turn {w w' : World} {s m1 m2 m3 : Nat} {i3 : List (Kd × Value)} {L L' : List It} (h : Core w s m1 m2 m3 i3 L) {k : Kd} {v v' : Value} {r' : List It} {S : Nat → Prop}
    (hv : (mapGet i3 k).getD (.slice none 0 0) = v)
    (hL : ∀ y, y.kd ≠ k → (y ∈ L' ↔ y ∈ L)) (hr : RowOf L' k r') (hnode : ∀ y ∈ L', w'.heap[y.b]? = some (.cells y.cells 167 (0, 0)))
    (ndb : (L'.map (·.b)).Nodup) (ndB : (L'.map (·.base)).Nodup)
    (hf : Fr (fun b => S b ∨ b = m3 ∨ some b = v.ownBlock) w w') (hSs : ¬ S s) (hSr : ∀ k v g, (k, v) ∈ i3 → v.ownBlock = some g → ¬ S g)
    (hs : MapIs kenc w' m3 (mapSet i3 k v')) (ho : w'.ownsRow 0 158 1 v' r'.length (r'.map It.ptr))
    (hg : ∀ g, v'.ownBlock = some g → v.ownBlock = some g ∨ w.heap.size ≤ g)
    (hx : ∀ y ∈ L', (∀ g, v'.ownBlock = some g → g ≠ y.b) ∧ (y ∈ L ∨ w.heap.size ≤ y.b)) : Core w' s m1 m2 m3 (mapSet i3 k v') L' := by
  have hn := h.sets.nodup
  have hsl := lt_blk h.root
  have h3s : s ≠ m3 := h.sets.ne h.root
  have hblk : ∀ k v g, (k, v) ∈ i3 → v.ownBlock = some g → g < w.heap.size ∧ g ≠ m3 := fun k v g hm hg' => by
    obtain ⟨r, _, ho'⟩ := h.row k v hm
    obtain ⟨cur, hc⟩ := ownsRow_blk ho' hg'
    exact ⟨lt_blk hc, h.sets.ne hc⟩
  have hvs : ∀ g, v.ownBlock = some g → g ≠ s := fun g hg' => (h.sepR _ _ g (h.own hv hg') hg').1
  refine ⟨hf.at h.root ?_, hs, hnode, ndb, ndB, fun k' u hm => ?_, fun y hy => ?_, fun y hy => ?_, fun k' u g hm hg' => ?_, fun k1 u1 k2 u2 g hm1 hm2 hg1 hg2 => ?_⟩
  · rintro (h1 | h1 | h1)
    · exact hSs h1
    · exact h3s h1
    · exact hvs s h1.symm rfl
  · rcases (mem_mapSet hn _).1 hm with he | ⟨hne, hm⟩
    · simp only [Prod.mk.injEq] at he
      obtain ⟨rfl, rfl⟩ := he
      exact ⟨r', hr, ho⟩
    · simp only at hne
      obtain ⟨r, h1, h2⟩ := h.row k' u hm
      refine ⟨r, h1.other (fun y hy => hL y (by rw [hy]; exact hne)), ownsRow_keep h2 hf (fun g hg' => ?_)⟩
      rintro (h3 | h3 | h3)
      · exact hSr _ _ g hm hg' h3
      · exact (hblk _ _ g hm hg').2 h3
      · exact hne (h.sepK _ _ _ _ g hm (h.own hv h3.symm) hg' h3.symm)
  · rw [List.mem_map]
    by_cases hy' : y.kd = k
    · exact ⟨(k, v'), (mem_mapSet hn _).2 (.inl rfl), hy'.symm⟩
    · obtain ⟨p, hp, he⟩ := List.mem_map.1 (h.all y ((hL y hy').1 hy))
      exact ⟨p, (mem_mapSet hn _).2 (.inr ⟨by rw [he]; exact hy', hp⟩), he⟩
  · rcases (hx y hy).2 with h1 | h1
    · exact h.sepS y h1
    · omega
  · rcases (mem_mapSet hn _).1 hm with he | ⟨hne, hm⟩
    · simp only [Prod.mk.injEq] at he
      obtain ⟨rfl, rfl⟩ := he
      refine ⟨?_, fun y hy => (hx y hy).1 g hg'⟩
      rcases hg g hg' with h1 | h1
      · exact hvs g h1
      · omega
    · refine ⟨(h.sepR _ _ g hm hg').1, fun y hy => ?_⟩
      rcases (hx y hy).2 with h1 | h1
      · exact (h.sepR _ _ g hm hg').2 y h1
      · have := (hblk _ _ g hm hg').1; omega
  · rcases (mem_mapSet hn _).1 hm1 with he1 | ⟨hne1, hn1⟩ <;> rcases (mem_mapSet hn _).1 hm2 with he2 | ⟨hne2, hn2⟩
    · simp only [Prod.mk.injEq] at he1 he2; rw [he1.1, he2.1]
    · simp only [Prod.mk.injEq] at he1
      obtain ⟨rfl, rfl⟩ := he1
      rcases hg g hg1 with h1 | h1
      · exact h.sepK _ _ _ _ g (h.own hv h1) hn2 h1 hg2
      · have := (hblk _ _ g hn2 hg2).1; omega
    · simp only [Prod.mk.injEq] at he2
      obtain ⟨rfl, rfl⟩ := he2
      rcases hg g hg2 with h1 | h1
      · exact h.sepK _ _ _ _ g hn1 (h.own hv h1) hg1 h1
      · have := (hblk _ _ g hn1 hg1).1; omega
    · exact h.sepK _ _ _ _ g hn1 hn2 hg1 hg2
end Go.Proofs.YtnjaaagiindclaaGreatDoor

/-
  m[k] = v as a step of an assignment of more than one: the entry is made, then stored to. No program in sight.
-/
namespace Go.Proofs.YtnjaaagiindclaaGreatDoor
open Go.RowKit

/-- the map in block b holds m, and an entry of the stamp st for k behind it -/
def Made {κ : Type} (enc : κ → Value) (w : World) (b : Nat) (m : List (κ × Value)) (k : κ) (z : Value) (st : Value) : Prop :=
  ∃ (es : Array MapEntry) (clock : Nat), w.heap[b]? = some (.map (es.push { key := enc k, val := z, born := clock }) (clock + 1)) ∧ es.toList.map (fun e => (e.key, e.val)) = m.map (fun p => (enc p.1, p.2)) ∧ (m.map (·.1)).Nodup ∧ (es.toList.map (·.born)).Nodup ∧ (∀ e ∈ es.toList, e.born < clock) ∧ st = goInt clock

section
variable {P : Program} {kt et t : TypeId} {κ : Type} [DecidableEq κ] {enc : κ → Value}

omit [DecidableEq κ] in
theorem Made.fr {S : Nat → Prop} {w w' : World} {b : Nat} {m : List (κ × Value)} {k : κ} {z st : Value} (h : Made enc w b m k z st) (hf : Fr S w w') (hs : ¬ S b) : Made enc w' b m k z st := by
  obtain ⟨es, c, h1, h2⟩ := h
  exact ⟨es, c, hf.at h1 hs, h2⟩

theorem run_map_entry_new (L : KeyLaw P kt enc) (ht : P.underlying t = some (.map kt et)) {w : World} {b : Nat} {m : List (κ × Value)} (h : MapIs enc w b m) (k : κ) (hk : k ∉ m.map (·.1)) (z : Value) (hz : (zeroValue et).run P w = .ok z w) :
    ∃ st w', (Instr.mapEntry t (.map (some b)) (enc k)).run P w = .ok (.tuple #[z, st]) w' ∧ Made enc w' b m k z st ∧ Fr (fun x => x = b) w w' := by
  obtain ⟨es, clock, hb, hes, hn, hbn, hbl⟩ := h
  have hp := posOf_none.2 hk
  refine ⟨goInt clock, put w b (.map (es.push { key := enc k, val := z, born := clock }) (clock + 1)), ?_, ⟨es, clock, heap_put hb, hes, hn, hbn, hbl, rfl⟩, fr_put w b _⟩
  unfold Instr.mapEntry
  simp only [Sem.run_bind, run_underlying ht, Result.andThen, getObj_map hb, L.check, find_at L hes k w, hp, Option.bind_none, hz]
  simp [setObj_map _ hb]

theorem run_entry_store (t : TypeId) {w : World} {b : Nat} {m : List (κ × Value)} {k : κ} {z st : Value} (h : Made enc w b m k z st) (hk : k ∉ m.map (·.1)) (v : Value) :
    ∃ w', (Instr.entryStore t (.map (some b)) st v).run P w = .ok () w' ∧ MapIs enc w' b (mapSet m k v) ∧ Fr (fun x => x = b) w w' := by
  obtain ⟨es, clock, hb, hes, hn, hbn, hbl, rfl⟩ := h
  have hfind : (es.push { key := enc k, val := z, born := clock }).findIdx? (fun e => (e.born : Int) == (clock : Int)) = some es.size := by
    rw [Array.findIdx?_push]
    have : es.findIdx? (fun e => (e.born : Int) == (clock : Int)) = none := by
      rw [Array.findIdx?_eq_none_iff]
      intro e he
      have := hbl e (by simpa using he)
      simp only [beq_eq_false_iff_ne]; omega
    rw [this]; simp
  have hmod : (es.push { key := enc k, val := z, born := clock }).modify es.size (fun e => { e with val := v }) = es.push { key := enc k, val := v, born := clock } := by
    apply Array.ext_getElem?
    intro i
    simp only [Array.getElem?_modify, Array.getElem?_push]
    by_cases hi : i = es.size
    · subst hi; simp
    · simp [hi, Ne.symm hi]
  rw [mapSet_new hk]
  refine ⟨put w b (.map (es.push { key := enc k, val := v, born := clock }) (clock + 1)), ?_, ⟨_, _, heap_put hb, ?_, ?_, ?_, ?_⟩, fr_put w b _⟩
  · unfold Instr.entryStore
    simp only [Sem.run_bind, getObj_map hb, Result.andThen, goInt, asInt, asIntOf, Sem.run_pure, hfind, hmod]
    simp [setObj_map _ hb]
  · simp [hes]
  · simp only [List.map_append, List.map_cons, List.map_nil, List.nodup_append, List.nodup_cons, List.not_mem_nil, not_false_eq_true, List.nodup_nil, and_self, List.mem_singleton]
    refine ⟨hn, trivial, ?_⟩
    rintro a ha x rfl rfl
    exact hk ha
  · simp only [Array.toList_push, List.map_append, List.map_cons, List.map_nil, List.nodup_append, List.nodup_cons, List.not_mem_nil, not_false_eq_true, List.nodup_nil, and_self, List.mem_singleton]
    refine ⟨hbn, trivial, ?_⟩
    rintro a ha x rfl rfl
    obtain ⟨e, he, he2⟩ := List.mem_map.1 ha
    have := hbl e he; omega
  · intro e he
    simp only [Array.toList_push, List.mem_append, List.mem_singleton] at he
    rcases he with he | rfl
    · have := hbl e he; omega
    · simp
end
end Go.Proofs.YtnjaaagiindclaaGreatDoor

/-
  A span is removed.
-/
namespace Go.Proofs.YtnjaaagiindclaaGreatDoor
open Go.RowKit Go.Deep

/-- sets, of which F names the blocks -/
def Is (w : World) (s : Nat) (L : List It) (F : Nat → Prop) : Prop := ∃ m1 m2 m3 i1 i2 i3, Sets w s m1 m2 m3 i1 i2 i3 L ∧ ∀ b, sfp s m1 m2 m3 i3 L b → F b

/-- what the code looks at -/
theorem Core.sight {w : World} {s m1 m2 m3 : Nat} {i3 : List (Kd × Value)} {L : List It} (h : Core w s m1 m2 m3 i3 L) {x : It} (hx : x ∈ L) :
    (w.cell? ⟨s, 0, none⟩ = some (.map (some m1)) ∧ w.cell? ⟨s, 1, none⟩ = some (.map (some m2)) ∧ w.cell? ⟨s, 2, none⟩ = some (.map (some m3))) ∧
    w.cell? ⟨x.b, 0, none⟩ = some (.int .i64 x.id) ∧ w.cell? ⟨x.b, 1, none⟩ = some (.int .u64 x.base) ∧ w.cell? ⟨x.b, 2, none⟩ = some (.int .i64 x.kd.1) ∧ w.cell? ⟨x.b, 3, none⟩ = some (.bool x.kd.2.1) ∧ w.cell? ⟨x.b, 4, none⟩ = some (.bool x.kd.2.2.1) ∧ w.cell? ⟨x.b, 5, none⟩ = some (.bool x.kd.2.2.2) :=
  ⟨blk3 h.root, blk6 (h.node x hx)⟩

theorem row_split {L : List It} {r : List It} {x : It} (h : RowOf L x.kd r) (hx : x ∈ L) : ∃ pre post, r = pre ++ x :: post ∧ pos r x.base = pre.length := by
  obtain ⟨pre, post, rfl⟩ := List.append_of_mem ((h.mem x).2 ⟨hx, rfl⟩)
  have ho := h.ord
  rw [List.pairwise_append] at ho
  refine ⟨pre, post, rfl, pos_of (by simp) (fun i y hi hy => ?_) (fun i y hi hy => ?_)⟩
  · rw [List.getElem?_append_left hi] at hy
    exact ho.2.2 y (List.mem_of_getElem? hy) x (by simp)
  · rw [List.getElem?_append_right hi] at hy
    rcases List.mem_cons.1 (List.mem_of_getElem? hy) with rfl | hm
    · exact Int.le_refl _
    · have := (List.pairwise_cons.1 ho.2.1).1 y hm; omega

theorem RowOf.cut {L : List It} {x : It} {pre post : List It} (h : RowOf L x.kd (pre ++ x :: post)) (hn : (L.map (·.id)).Nodup) (hx : x ∈ L) : RowOf (L.filter (fun y => decide (y.id ≠ x.id))) x.kd (pre ++ post) := by
  have ho := h.ord
  refine ⟨ho.sublist (List.Sublist.append_left (List.sublist_cons_self _ _) _), fun y => ?_⟩
  have hm := h.mem y
  simp only [List.mem_append, List.mem_cons, List.mem_filter, decide_eq_true_eq] at hm ⊢
  rw [List.pairwise_append] at ho
  constructor
  · intro hy
    have hy' : y ∈ L ∧ y.kd = x.kd := hm.1 (hy.elim .inl (fun h => .inr (.inr h)))
    refine ⟨⟨hy'.1, fun he => ?_⟩, hy'.2⟩
    have hyx : y = x := by
      obtain ⟨i, hi⟩ := List.mem_iff_getElem?.1 hy'.1
      obtain ⟨j, hj⟩ := List.mem_iff_getElem?.1 hx
      have := nodup_inj hn (i := i) (j := j) (a := x.id) (by rw [List.getElem?_map, hi]; simp [he]) (by rw [List.getElem?_map, hj]; rfl)
      subst this
      rw [hi] at hj; simpa using hj
    subst hyx
    rcases hy with hy | hy
    · have := ho.2.2 y hy y (by simp); omega
    · have := (List.pairwise_cons.1 ho.2.1).1 y hy; omega
  · rintro ⟨⟨h1, h2⟩, h3⟩
    rcases hm.2 ⟨h1, h3⟩ with h4 | rfl | h4
    · exact .inl h4
    · exact absurd rfl h2
    · exact .inr h4

theorem ownBlock_len (a : Option Addr) (n n' c : Nat) : (Value.slice a n c).ownBlock = (Value.slice a n' c).ownBlock := by cases a <;> rfl

/-- the sets behind a removal -/
theorem removed {w w1 w2 w3 w4 w5 : World} {s m1 m2 m3 c : Nat} {i1 i2 : List (Int × Value)} {i3 : List (Kd × Value)} {L r pre post : List It} {F : Nat → Prop} {x : It} {a : Option Addr} {v4 : Value}
    (H : Sets w s m1 m2 m3 i1 i2 i3 L) (hF : ∀ b, sfp s m1 m2 m3 i3 L b → F b) (hx : x ∈ L) (hv : (mapGet i3 x.kd).getD (.slice none 0 0) = .slice a r.length c) (hr : RowOf L x.kd r) (hsp : r = pre ++ x :: post)
    (M1 : MapIs ienc w1 m1 (mapDel i1 x.id)) (F1 : Fr (fun b => b = m1) w w1) (M2 : MapIs benc w2 m2 (mapDel i2 x.base)) (F2 : Fr (fun b => b = m2) w1.drew w2) (F3 : Fr (fun _ => False) w2.drew w3)
    (ho : w4.ownsRow 0 158 1 v4 (pre.length + (r.length - (pre.length + 1))) ((r.map It.ptr).take (pre.length * 1) ++ (r.map It.ptr).drop ((pre.length + 1) * 1)))
    (F4 : Fr (fun b => some b = (Value.slice a pre.length c).ownBlock) w3 w4) (hg4 : ∀ g, v4.ownBlock = some g → (Value.slice a pre.length c).ownBlock = some g ∨ w3.heap.size ≤ g)
    (M5 : MapIs kenc w5 m3 (mapSet i3 x.kd v4)) (F5 : Fr (fun b => b = m3) w4 w5) :
    Is w5 s (L.filter (fun y => decide (y.id ≠ x.id))) (fun b => F b ∨ w.heap.size ≤ b) ∧ Fr F w w5 := by
  have hob : (Value.slice a pre.length c).ownBlock = (Value.slice a r.length c).ownBlock := ownBlock_len a _ _ c
  rw [hob] at F4 hg4
  generalize hvv : Value.slice a r.length c = v at hv F4 hg4
  have g2 : Fr (fun b => b = m1 ∨ b = m2) w w2 := (F1.drew.mono (fun _ _ h => .inl h)).trans F2 (fun _ _ h => .inr h)
  have g3 : Fr (fun b => b = m1 ∨ b = m2) w w3 := g2.drew.trans F3 (fun _ _ => False.elim)
  have hsz3 := g3.size
  have hown : ∀ g, v.ownBlock = some g → (x.kd, v) ∈ i3 := fun g hg => H.core.own hv hg
  have hm1 : ∀ g, v.ownBlock = some g → g ≠ m1 ∧ g ≠ m2 ∧ g ≠ m3 ∧ g < w.heap.size := fun g hg => by
    obtain ⟨r', _, ho'⟩ := H.core.row _ _ (hown g hg)
    obtain ⟨cur, hc⟩ := ownsRow_blk ho' hg
    exact ⟨H.ids.ne hc, H.bases.ne hc, H.core.sets.ne hc, lt_blk hc⟩
  have g5 : Fr (fun b => (b = m1 ∨ b = m2) ∨ b = m3 ∨ some b = v.ownBlock) w w5 :=
    ((g3.mono (fun _ _ h => Or.inl h)).trans F4 (fun _ _ h => .inr (.inr h))).trans F5 (fun _ _ h => .inr (.inl h))
  have hsm : s ≠ m1 ∧ s ≠ m2 := ⟨H.ids.ne H.core.root, H.bases.ne H.core.root⟩
  have hrow' : (r.map It.ptr).take (pre.length * 1) ++ (r.map It.ptr).drop ((pre.length + 1) * 1) = (pre ++ post).map It.ptr := by
    rw [hsp]
    simp only [Nat.mul_one, List.map_append, List.map_cons]
    have e1 : (pre.map It.ptr ++ x.ptr :: post.map It.ptr).take pre.length = pre.map It.ptr := List.take_left' (by simp)
    have e2 : (pre.map It.ptr ++ x.ptr :: post.map It.ptr).drop (pre.length + 1) = post.map It.ptr := by
      rw [show pre.map It.ptr ++ x.ptr :: post.map It.ptr = (pre.map It.ptr ++ [x.ptr]) ++ post.map It.ptr by simp]
      exact List.drop_left' (by simp)
    rw [e1, e2]
  have hlen : pre.length + (r.length - (pre.length + 1)) = (pre ++ post).length := by rw [hsp]; simp; omega
  rw [hrow', hlen] at ho
  have ho5 : w5.ownsRow 0 158 1 v4 (pre ++ post).length ((pre ++ post).map It.ptr) := ownsRow_keep ho F5 (fun g hg he => by
    rcases hg4 g hg with h1 | h1
    · exact (hm1 g h1).2.2.1 he
    · have := H.core.sets.lt; omega)
  have hnx : ∀ y ∈ L, w5.heap[y.b]? = some (.cells y.cells 167 (0, 0)) := fun y hy => g5.at (H.core.node y hy) (by
    rintro ((h | h) | h | h)
    · exact H.ids.ne (H.core.node y hy) h
    · exact H.bases.ne (H.core.node y hy) h
    · exact H.core.sets.ne (H.core.node y hy) h
    · exact (H.core.sepR _ _ _ (hown _ h.symm) h.symm).2 y hy rfl)
  have hsub : ∀ y ∈ L.filter (fun y => decide (y.id ≠ x.id)), y ∈ L := fun y hy => (List.mem_filter.1 hy).1
  have hinj : ∀ y ∈ L, y.id = x.id → y = x := fun y hy he => by
    obtain ⟨i, hi⟩ := List.mem_iff_getElem?.1 hy
    obtain ⟨j, hj⟩ := List.mem_iff_getElem?.1 hx
    have := nodup_inj H.ndI (i := i) (j := j) (a := x.id) (by rw [List.getElem?_map, hi]; simp [he]) (by rw [List.getElem?_map, hj]; rfl)
    subst this
    rw [hi] at hj; simpa using hj
  have hinjb : ∀ y ∈ L, y.base = x.base → y = x := fun y hy he => by
    obtain ⟨i, hi⟩ := List.mem_iff_getElem?.1 hy
    obtain ⟨j, hj⟩ := List.mem_iff_getElem?.1 hx
    have := nodup_inj H.core.ndB (i := i) (j := j) (a := x.base) (by rw [List.getElem?_map, hi]; simp [he]) (by rw [List.getElem?_map, hj]; rfl)
    subst this
    rw [hi] at hj; simpa using hj
  have hv4x : ∀ y ∈ L, ∀ g, v4.ownBlock = some g → g ≠ y.b := fun y hy g hg => by
    rcases hg4 g hg with h1 | h1
    · exact (H.core.sepR _ _ _ (hown _ h1) h1).2 y hy
    · have := lt_blk (H.core.node y hy); omega
  have hcut := RowOf.cut (hsp ▸ hr) H.ndI hx
  have C5 : Core w5 s m1 m2 m3 (mapSet i3 x.kd v4) (L.filter (fun y => decide (y.id ≠ x.id))) :=
    H.core.turn (S := fun b => b = m1 ∨ b = m2) hv (fun y hy => by rw [List.mem_filter]; exact ⟨fun h => h.1, fun h => ⟨h, by simp only [decide_eq_true_eq]; intro he; exact hy (by rw [hinj y h he])⟩⟩) hcut (fun y hy => hnx y (hsub y hy))
      (H.core.ndb.sublist (List.filter_sublist.map _)) (H.core.ndB.sublist (List.filter_sublist.map _)) g5 (fun h => h.elim hsm.1 hsm.2)
      (fun k u g hm hg h => by
        obtain ⟨r', _, ho'⟩ := H.core.row _ _ hm
        obtain ⟨cur, hc⟩ := ownsRow_blk ho' hg
        exact h.elim (H.ids.ne hc) (H.bases.ne hc)) M5 ho5 (fun g hg => (hg4 g hg).imp_right (fun h => by omega)) (fun y hy => ⟨hv4x y (hsub y hy), .inl (hsub y hy)⟩)
  have hq1 : ∀ z v, (z, v) ∈ mapDel i1 x.id ↔ ∃ y ∈ L.filter (fun y => decide (y.id ≠ x.id)), y.id = z ∧ v = y.ptr := fun z u => by
    rw [mem_mapDel H.ids.nodup, H.idsL]
    constructor
    · rintro ⟨h1, y, hy, h2, h3⟩
      exact ⟨y, List.mem_filter.2 ⟨hy, by simp only [decide_eq_true_eq]; rw [h2]; exact h1⟩, h2, h3⟩
    · rintro ⟨y, hy, h2, h3⟩
      have := (List.mem_filter.1 hy).2
      simp only [decide_eq_true_eq] at this
      exact ⟨by rw [← h2]; exact this, y, hsub y hy, h2, h3⟩
  have hq2 : ∀ z v, (z, v) ∈ mapDel i2 x.base ↔ ∃ y ∈ L.filter (fun y => decide (y.id ≠ x.id)), y.base = z ∧ v = y.ptr := fun z u => by
    rw [mem_mapDel H.bases.nodup, H.basesL]
    constructor
    · rintro ⟨h1, y, hy, h2, h3⟩
      refine ⟨y, List.mem_filter.2 ⟨hy, ?_⟩, h2, h3⟩
      simp only [decide_eq_true_eq]
      intro he
      rw [hinj y hy he] at h2
      exact h1 h2.symm
    · rintro ⟨y, hy, h2, h3⟩
      have hne := (List.mem_filter.1 hy).2
      simp only [decide_eq_true_eq] at hne
      refine ⟨fun he => hne ?_, y, hsub y hy, h2, h3⟩
      simp only at he
      rw [hinjb y (hsub y hy) (h2.trans he)]
  have a2 : MapIs ienc w2 m1 (mapDel i1 x.id) := MapIs.fr (w := w1.drew) (S := fun b => b = m2) M1 F2 H.sepM.1
  have a3 : MapIs ienc w3 m1 (mapDel i1 x.id) := MapIs.fr (w := w2.drew) (S := fun _ => False) a2 F3 (fun h => h)
  have M1' : MapIs ienc w5 m1 (mapDel i1 x.id) := (a3.fr F4 (fun h => (hm1 _ h.symm).1 rfl)).fr F5 H.sepM.2.1
  have b3 : MapIs benc w3 m2 (mapDel i2 x.base) := MapIs.fr (w := w2.drew) (S := fun _ => False) M2 F3 (fun h => h)
  have M2' : MapIs benc w5 m2 (mapDel i2 x.base) := (b3.fr F4 (fun h => (hm1 _ h.symm).2.1 rfl)).fr F5 H.sepM.2.2
  refine ⟨⟨m1, m2, m3, _, _, _, ⟨C5, M1', M2', hq1, hq2, H.ndI.sublist (List.filter_sublist.map _), H.sepM⟩, fun b hb => ?_⟩, g5.mono (fun b _ hb => hF b ?_)⟩
  · rcases hb with hb | hb | hb | hb | ⟨y, hy, hb⟩ | ⟨k, u, hm, hb⟩
    · exact .inl (hF b (.inl hb))
    · exact .inl (hF b (.inr (.inl hb)))
    · exact .inl (hF b (.inr (.inr (.inl hb))))
    · exact .inl (hF b (.inr (.inr (.inr (.inl hb)))))
    · exact .inl (hF b (.inr (.inr (.inr (.inr (.inl ⟨y, hsub y hy, hb⟩))))))
    · rcases (mem_mapSet H.core.sets.nodup _).1 hm with he | ⟨hne, hm⟩
      · simp only [Prod.mk.injEq] at he
        obtain ⟨rfl, rfl⟩ := he
        rcases hg4 b hb with h1 | h1
        · exact .inl (hF b (.inr (.inr (.inr (.inr (.inr ⟨_, v, hown _ h1, h1⟩))))))
        · exact .inr (by omega)
      · exact .inl (hF b (.inr (.inr (.inr (.inr (.inr ⟨k, u, hm, hb⟩))))))
  · rcases hb with (hb | hb) | hb | hb
    · exact .inr (.inl hb)
    · exact .inr (.inr (.inl hb))
    · exact .inr (.inr (.inr (.inl hb)))
    · exact .inr (.inr (.inr (.inr (.inr ⟨_, v, hown _ hb.symm, hb.symm⟩))))

theorem info_item : (Tryz.prog.info? 158).map (fun i => (i.zero, i.size, i.bytes)) = some (some (.pointer none), 1, 8) := by kernel_rfl

set_option maxRecDepth 100000 in
set_option maxHeartbeats 8000000 in
theorem remove_ok {s : Nat} {L : List It} {F : Nat → Prop} (w : World) (h0 : Is w s L F) (x : It) (hx : x ∈ L) (hL : L.length ≤ 1000000) :
    Calls Tryz.prog 178 #[.pointer (some ⟨s, 0, none⟩), .int .i64 x.id] w fun e w' => e = .returned (.int .i64 0) ∧ Is w' s (L.filter (fun y => decide (y.id ≠ x.id))) (fun b => F b ∨ w.heap.size ≤ b) ∧ Fr F w w' := by
  obtain ⟨m1, m2, m3, i1, i2, i3, h, hF⟩ := h0
  obtain ⟨⟨c1, c2, c3⟩, d0, d1, d2, d3, d4, d5⟩ := h.core.sight hx
  have H := Lib.hid h
  have HF := Lib.hid hF
  have hg := Lib.hid (h.find hx)
  have HX := Lib.hid hx
  clear h hF hx
  go_enter Tryz.func178, Tryz.ntmps178
  go_wp2_with (first | (refine wpList_map_lookup (by rfl) keyLaw_i Tryz.underlying159 _ _ false (by rfl) H.out.ids x.id (.pointer none) zero_item (by rfl) (by rfl) ?_; simp only [hg.out, Bool.false_eq_true, if_false]) | (refine wpList_map_del (by rfl) keyLaw_i Tryz.underlying159 _ _ _ (by rfl) H.out.ids x.id (by rfl) (by rfl) ?_; intro w1 hm1 hf1; have M1 := Lib.hid hm1; have F1 := Lib.hid hf1; clear hm1 hf1; go_simp))
  have C1 := Lib.hid (H.out.core.keep_map H.out.ids H.out.sepM.2.1 F1.out)
  have B1 := Lib.hid (H.out.bases.frk F1.out (fun e => H.out.sepM.1 e.symm))
  clear c1 c2 c3 d0 d1 d2 d3 d4 d5
  obtain ⟨⟨c1, c2, c3⟩, d0, d1, d2, d3, d4, d5⟩ := C1.out.sight HX.out
  go_region_held3 (fun w' => w'.cell? ⟨s, 1, none⟩ = some (.map (some m2)) ∧ w'.cell? ⟨x.b, 1, none⟩ = some (.int .u64 x.base)) (go_keep) ((refine step_plain (by rfl) (wp_map_del keyLaw_b Tryz.underlying160 _ _ _ (by rfl) (w := w1.drew) B1.out x.base (by rfl) (by rfl) ?_); intro w2 hm2 hf2; have M2 := Lib.hid hm2; have F2 := Lib.hid hf2; clear hm2 hf2; have C2 := Lib.hid ((C1.out.quiet (Fr.refl _ w1).drew).keep_map (w := w1.drew) B1.out H.out.sepM.2.2 F2.out); obtain ⟨⟨k1, k2, k3⟩, e0, e1, e2, e3, e4, e5⟩ := C2.out.sight HX.out))
  clear c1 c2 c3 d0 d1 d2 d3 d4 d5 k1 k2 k3
  obtain ⟨r, a, c, hv, hr, ho⟩ := C2.out.look x.kd
  obtain ⟨pre, post, hsp, hpos⟩ := row_split hr HX.out
  have hrl : r.length ≤ 1000000 := Nat.le_trans (by rw [row_len hr H.out.core.ndb]; exact List.length_filter_le _ _) hL
  have hp := place_any w2.drew (C2.out.quiet (Fr.refl _ w2).drew) x.kd x.base r a c hv hr ho.drew hrl
  rw [hpos] at hp
  unfold kenc at hp
  have HP := Lib.hid hp
  have HV := Lib.hid hv
  have HR := Lib.hid (And.intro hr hsp)
  have HO := Lib.hid ho
  clear hp hv hr hsp ho hpos
  go_wp2_with fail
  go_region_held3 (fun w' => w'.cell? ⟨x.b, 1, none⟩ = some (.int .u64 x.base) ∧ w'.cell? ⟨x.b, 2, none⟩ = some (.int .i64 x.kd.1) ∧ w'.cell? ⟨x.b, 3, none⟩ = some (.bool x.kd.2.1) ∧ w'.cell? ⟨x.b, 4, none⟩ = some (.bool x.kd.2.2.1) ∧ w'.cell? ⟨x.b, 5, none⟩ = some (.bool x.kd.2.2.2)) (go_keep) ((go_at_call 234; refine HP.out.mono ?_; rintro e w3 ⟨rfl, f3⟩; have F3 := Lib.hid f3; clear f3; have C3 := Lib.hid ((C2.out.quiet (Fr.refl _ w2).drew).quiet F3.out); obtain ⟨⟨k1, k2, k3⟩, j0, j1, j2, j3, j4, j5⟩ := C3.out.sight HX.out))
  clear e0 e1 e2 e3 e4 e5 k1 k2 j0 j1
  have look := fun n => run_row ((C3.out.sets).drewN n) HV.out
  unfold kenc at look
  go_wp2_with fail
  go_quiet (fail)
  obtain ⟨i0, hi, hz0, hz1, hz2⟩ := info_parts info_item
  have HO3 := Lib.hid (ownsRow_keep (ownsRow_keep HO.out (Fr.refl (fun _ => False) w2).drew (fun _ _ x => x)) F3.out (fun _ _ x => x))
  have hrn : r.length = pre.length + (post.length + 1) := by rw [HR.out.2]; simp
  have hcap := ownsRow_cap HO3.out
  have s1 := run_to 288 158 i0 Tryz.underlying288 hi a r.length c .i64 pre.length (by omega)
  have s2 := run_from 288 158 i0 Tryz.underlying288 hi 1 hz1 a r.length c .i64 (pre.length + 1) (by omega) hcap
  have hrd := Lib.hid ((ownsRow_rd HO3.out).from (k := pre.length + 1) (by omega))
  have hpre := Lib.hid (ownsRow_prefix HO3.out (k := pre.length) (by omega))
  have hpl : pre.length ≤ 1000000 := by omega
  rw [Int.natCast_add, Int.natCast_one] at s2
  generalize sliced a (pre.length + 1) r.length c 1 = sv at s2 hrd
  have hA1 := Lib.hid (show ∀ u ∈ ((r.map It.ptr).drop ((pre.length + 1) * 1)), u.oneCell' = true from fun u hu => by obtain ⟨y, _, rfl⟩ := List.mem_map.1 (List.mem_of_mem_drop hu); rfl)
  have hA2 := Lib.hid (show pre.length + (r.length - (pre.length + 1)) ≤ maxLen by simp only [maxLen]; omega)
  have hA3 := Lib.hid (show (pre.length + (r.length - (pre.length + 1))) * 8 ≤ 140737488355328 by omega)
  have hA4 : (-9223372036854775808 : Int) ≤ (pre.length : Int) + 1 ∧ (pre.length : Int) + 1 ≤ 9223372036854775807 := by omega
  replace hrn := Lib.hid hrn
  have hw : IntKind.i64.wrap ((pre.length : Int) + 1) = (pre.length : Int) + 1 := IntWalk.i64_in _ hA4
  clear hcap hA4
  go_wp2_with fail
  go_region_held3 (fun w' => w'.cell? ⟨s, 2, none⟩ = some (.map (some m3)) ∧ w'.cell? ⟨x.b, 2, none⟩ = some (.int .i64 x.kd.1) ∧ w'.cell? ⟨x.b, 3, none⟩ = some (.bool x.kd.2.1) ∧ w'.cell? ⟨x.b, 4, none⟩ = some (.bool x.kd.2.2.1) ∧ w'.cell? ⟨x.b, 5, none⟩ = some (.bool x.kd.2.2.2)) (go_keep) ((refine step_plain (by rfl) (wp_append_rows _ _ 288 (by rfl) 158 i0 _ 1 8 Tryz.underlying288 hi hz0 hz1 hz2 (by rfl) (by decide) _ _ _ (by rfl) hpre.out _ _ _ (by rfl) hrd.out hA1.out hA2.out hA3.out ?_); intro v4 w4 ho4 hf4 hg4; have P4 := Lib.hid (C3.out.past HV.out (show Fr _ w3 w4 from ⟨hf4.os, hf4.tape, hf4.output, hf4.size, hf4.same⟩)); have O4 := Lib.hid (And.intro ho4 (And.intro hf4 hg4)); clear ho4 hf4 hg4; obtain ⟨_, _, k3⟩ := blk3 P4.out.1; obtain ⟨_, _, j2, j3, j4, j5⟩ := blk6 (P4.out.2.1 x HX.out); obtain ⟨w5, r5, hm5, hf5⟩ := run_map_set keyLaw_kind Tryz.underlying161 P4.out.2.2 x.kd v4; have M5 := Lib.hid (And.intro hm5 hf5); have R5 := Lib.hid (hf5.at P4.out.1 (P4.out.2.2.ne P4.out.1)); have N5 := Lib.hid (hf5.at (P4.out.2.1 x HX.out) (P4.out.2.2.ne (P4.out.2.1 x HX.out))); clear hm5 hf5; unfold kenc at r5; obtain ⟨_, _, q3⟩ := blk3 R5.out; obtain ⟨_, _, q2, q4, q5, q6⟩ := blk6 N5.out))
  go_wp2
  go_ret
  have HH := removed H.out HF.out HX.out HV.out HR.out.1 HR.out.2 M1.out F1.out M2.out F2.out F3.out O4.out.1 (show Fr _ w3 w4 from ⟨O4.out.2.1.os, O4.out.2.1.tape, O4.out.2.1.output, O4.out.2.1.size, O4.out.2.1.same⟩) O4.out.2.2 M5.out.1 M5.out.2
  exact ⟨rfl, HH⟩
end Go.Proofs.YtnjaaagiindclaaGreatDoor

/-
  The least of a set is taken.
-/
namespace Go.Proofs.YtnjaaagiindclaaGreatDoor
open Go.RowKit Go.Deep

/-- what Take answers, and what is left -/
def Took (L : List It) (k : Kd) (id : Int) (ok : Bool) (L' : List It) : Prop :=
  (ok = false ∧ id = 0 ∧ L' = L ∧ ∀ x ∈ L, x.kd ≠ k) ∨ (ok = true ∧ ∃ x ∈ L, x.kd = k ∧ x.id = id ∧ (∀ y ∈ L, y.kd = k → x.base ≤ y.base) ∧ L' = L.filter (fun y => decide (y.id ≠ x.id)))

set_option maxRecDepth 100000 in
set_option maxHeartbeats 4000000 in
theorem take_any {s : Nat} {L : List It} {F : Nat → Prop} (w : World) (h0 : Is w s L F) (k1 : Int) (k2 k3 k4 : Bool) (hL : L.length ≤ 1000000) :
    Calls Tryz.prog 248 #[.pointer (some ⟨s, 0, none⟩), .int .i64 k1, .bool k2, .bool k3, .bool k4] w fun e w' =>
      ∃ id ok L', e = .returned (.tuple #[.int .i64 id, .bool ok]) ∧ Took L (k1, k2, k3, k4) id ok L' ∧ Is w' s L' (fun b => F b ∨ w.heap.size ≤ b) ∧ Fr F w w' := by
  obtain ⟨m1, m2, m3, i1, i2, i3, h, hF⟩ := id h0
  obtain ⟨r, a, c, hv, hr, ho⟩ := h.core.look (k1, k2, k3, k4)
  have c3 := (blk3 h.core.root).2.2
  have look := run_row h.core.sets hv
  unfold kenc at look
  simp only at look
  have H0 := Lib.hid h0
  have HC := Lib.hid h.core
  have HF := Lib.hid hF
  have hrl : r.length ≤ 1000000 := Nat.le_trans (by rw [row_len hr h.core.ndb]; exact List.length_filter_le _ _) hL
  clear h0 h hv hF
  cases r with
  | nil =>
    have T := Lib.hid (show Took L (k1, k2, k3, k4) 0 false L from .inl ⟨rfl, rfl, rfl, fun x hx he => by have := (hr.mem x).2 ⟨hx, he⟩; simp at this⟩)
    clear hr ho
    go_enter Tryz.func248, Tryz.ntmps248
    go_wp2
    go_ret2
    obtain ⟨m1, m2, m3, i1, i2, i3, h, hF⟩ := H0.out
    exact ⟨_, _, _, rfl, T.out, ⟨m1, m2, m3, i1, i2, i3, h, fun b hb => .inl (hF b hb)⟩, Fr.refl _ _⟩
  | cons x r =>
    obtain ⟨hx1, hx2, hx3⟩ := row_head hr
    obtain ⟨g, rfl, e0⟩ := row_first ho
    have e1 : w.cell? ⟨x.b, 0, none⟩ = some (.int .i64 x.id) := cell_blk (c := x.cells) (HC.out.node x hx1) 0
    have T := Lib.hid (show Took L (k1, k2, k3, k4) x.id true (L.filter (fun y => decide (y.id ≠ x.id))) from .inr ⟨rfl, x, hx1, hx2, rfl, hx3, rfl⟩)
    have hrem := Lib.hid (remove_ok w H0.out x hx1 hL)
    have hrl2 : 0 < (x :: r).length := by simp
    have hrl3 : ((x :: r).length == 0) = false := by simp
    generalize (x :: r).length = n at *
    clear hr ho hx1 hx2 hx3
    go_enter Tryz.func248, Tryz.ntmps248
    go_wp2_with (go_at_call 178; refine hrem.out.mono ?_; rintro e w1 ⟨rfl, q1⟩; have Q1 := Lib.hid q1; clear q1)
    go_ret2
    exact ⟨_, _, _, rfl, T.out, Q1.out.1, Q1.out.2⟩
end Go.Proofs.YtnjaaagiindclaaGreatDoor

/-
  A span is put: refused.
-/
namespace Go.Proofs.YtnjaaagiindclaaGreatDoor
open Go.RowKit Go.Deep

theorem new_any (w : World) : Calls Tryz.prog 44 #[] w fun e w' => ∃ s, e = .returned (.pointer (some ⟨s, 0, none⟩)) ∧ Is w' s [] (fun b => w.heap.size ≤ b) ∧ Fr (fun _ => False) w w' := by
  go_enter Tryz.func44, Tryz.ntmps44
  go_wp2_with (refine wpList_make_map (by rfl) _ (by rfl) ?_)
  go_ret
  have e1 := size_alloc w (Obj.map #[] 0)
  have e2 := size_alloc (w.alloc (Obj.map #[] 0)) (Obj.map #[] 0)
  have e3 := size_alloc ((w.alloc (Obj.map #[] 0)).alloc (Obj.map #[] 0)) (Obj.map #[] 0)
  refine ⟨_, rfl, ⟨w.heap.size, w.heap.size + 1, w.heap.size + 1 + 1, [], [], [], ⟨⟨?_, ?_, by simp, by simp, by simp, by simp, by simp, by simp, by simp, by simp⟩, ?_, ?_, by simp, by simp, by simp, by omega⟩, fun b hb => ?_⟩, ((((Fr.refl _ w).alloc _).alloc _).alloc _).alloc _⟩
  · rw [heap_alloc, if_pos (by omega)]
  · exact MapIs.new _ (by rw [heap_alloc, if_neg (by omega), heap_alloc, if_pos (by omega)])
  · exact MapIs.new _ (by rw [heap_alloc, if_neg (by omega), heap_alloc, if_neg (by omega), heap_alloc, if_neg (by omega), heap_alloc, if_pos rfl])
  · exact MapIs.new _ (by rw [heap_alloc, if_neg (by omega), heap_alloc, if_neg (by omega), heap_alloc, if_pos (by omega)])
  · rcases hb with hb | hb | hb | hb | ⟨_, hb, _⟩ | ⟨_, _, hb, _⟩
    · omega
    · omega
    · omega
    · omega
    · simp at hb
    · simp at hb

theorem put_arg (s : Nat) (w : World) (id base cls : Int) (np fu sw : Bool) (h : id < 1 ∨ cls < 0 ∨ 68 ≤ cls) :
    Calls Tryz.prog 226 #[.pointer (some ⟨s, 0, none⟩), .int .i64 id, .int .u64 base, .int .i64 cls, .bool np, .bool fu, .bool sw] w fun e w' => e = .returned (.int .i64 1) ∧ w = w' := by
  by_cases h1 : id < 1
  · clear h
    go_enter Tryz.func226, Tryz.ntmps226
    go_wp2
    go_ret
    exact ⟨rfl, rfl⟩
  · by_cases h2 : cls < 0
    · clear h
      go_enter Tryz.func226, Tryz.ntmps226
      go_wp2
      go_ret
      exact ⟨rfl, rfl⟩
    · have h3 : 68 ≤ cls := by omega
      clear h
      go_enter Tryz.func226, Tryz.ntmps226
      go_wp2
      go_ret
      exact ⟨rfl, rfl⟩

theorem run_id {w : World} {b : Nat} {m : List (Int × Value)} {k : Int} {v : Value} (h : MapIs ienc w b m) (hv : (mapGet m k).getD (.pointer none) = v) :
    (Instr.lookup 159 (.map (some b)) (.int .i64 k) false).run Tryz.prog w = .ok v w := by
  have := run_map_lookup keyLaw_i Tryz.underlying159 h k (.pointer none) (zero_item w) false
  simp only [hv, Bool.false_eq_true, if_false] at this
  exact this
theorem run_base {w : World} {b : Nat} {m : List (Int × Value)} {k : Int} {v : Value} (h : MapIs benc w b m) (hv : (mapGet m k).getD (.pointer none) = v) :
    (Instr.lookup 160 (.map (some b)) (.int .u64 k) false).run Tryz.prog w = .ok v w := by
  have := run_map_lookup keyLaw_b Tryz.underlying160 h k (.pointer none) (zero_item w) false
  simp only [hv, Bool.false_eq_true, if_false] at this
  exact this

theorem put_twice {s : Nat} {L : List It} {F : Nat → Prop} (w : World) (h0 : Is w s L F) (id base cls : Int) (np fu sw : Bool) (hid : 1 ≤ id) (hc : 0 ≤ cls ∧ cls < 68) (h : ∃ x ∈ L, x.id = id ∨ x.base = base) :
    Calls Tryz.prog 226 #[.pointer (some ⟨s, 0, none⟩), .int .i64 id, .int .u64 base, .int .i64 cls, .bool np, .bool fu, .bool sw] w fun e w' => e = .returned (.int .i64 34) ∧ w = w' := by
  obtain ⟨m1, m2, m3, i1, i2, i3, H, hF⟩ := h0
  obtain ⟨c1, c2, c3⟩ := blk3 H.core.root
  have n1 : ¬ id < 1 := by omega
  have n2 : ¬ cls < 0 := by omega
  have n3 : ¬ 68 ≤ cls := by omega
  by_cases hx : ∃ x ∈ L, x.id = id
  · obtain ⟨x, hx, rfl⟩ := hx
    have look := run_id H.ids (H.find hx)
    clear H hF h hid hc hx
    go_enter Tryz.func226, Tryz.ntmps226
    go_wp2
    go_ret
    exact ⟨rfl, rfl⟩
  · obtain ⟨x, hxL, hxb⟩ : ∃ x ∈ L, x.base = base := by
      obtain ⟨x, h1, h2 | h2⟩ := h
      · exact absurd ⟨x, h1, h2⟩ hx
      · exact ⟨x, h1, h2⟩
    subst hxb
    have look := run_id (k := id) H.ids (H.find_none (fun y hy he => hx ⟨y, hy, he⟩))
    have look2 := run_base H.bases (H.at hxL)
    clear H hF h hid hc hx hxL
    go_enter Tryz.func226, Tryz.ntmps226
    go_wp2
    go_ret
    exact ⟨rfl, rfl⟩
end Go.Proofs.YtnjaaagiindclaaGreatDoor

/-
  Room is made in a row: copy(l[j+1:], l[j:]). No program in sight.
-/
namespace Go.Proofs.YtnjaaagiindclaaGreatDoor
open Go.RowKit

theorem run_copy_shift {P : Program} {w : World} (t ty e : TypeId) (ht : P.underlying t = some (.slice e)) (hs : (P.info? e).map (·.size) = some 1) {g n c j : Nat} {xs : List Value}
    (h : w.ownsRow 0 e 1 (.slice (some ⟨g, 0, none⟩) n c) n xs) (hj : j + 1 ≤ n) (h1 : ∀ v ∈ xs, v.oneCell' = true) :
    ∃ w', (Builtin.copy_ #[t, t] ty #[sliced (some ⟨g, 0, none⟩) (j + 1) n c 1, sliced (some ⟨g, 0, none⟩) j n c 1]).run P w = .ok (goInt (n - (j + 1) : Nat)) w' ∧
      w'.ownsRow 0 e 1 (.slice (some ⟨g, 0, none⟩) n c) n (xs.take (j + 1) ++ (xs.drop j).take (n - (j + 1))) ∧ Fr (fun b => b = g) w w' := by
  have h0 := h
  obtain ⟨hl, ⟨hv, _⟩ | ⟨g', cap, cur, hv, _, hg, hn, hcm, hcs, htk⟩⟩ := h
  · simp at hv
  simp only [Value.slice.injEq, Option.some.injEq, Addr.mk.injEq] at hv
  obtain ⟨⟨rfl, _⟩, _, rfl⟩ := hv
  simp only [Nat.mul_one] at hl hcs htk
  by_cases hjn : j + 1 = n
  · have hr := run_copy_none (P := P) w t t ty e (if c = j + 1 then some ⟨g, 0, none⟩ else (some ⟨g, 0, none⟩ : Option Addr).map (·.add ((j + 1) * 1))) (if c = j then some ⟨g, 0, none⟩ else (some ⟨g, 0, none⟩ : Option Addr).map (·.add (j * 1))) (n - (j + 1)) (c - (j + 1)) (n - j) (c - j) ht hs (by rw [show n - (j + 1) = 0 by omega]; exact Nat.min_zero _)
    refine ⟨w, ?_, ?_, Fr.refl _ _⟩
    · unfold sliced
      rw [hr, show n - (j + 1) = 0 by omega]; rfl
    · rw [show n - (j + 1) = 0 by omega, List.take_zero, List.append_nil, hjn, List.take_of_length_le (by omega)]
      exact h0
  · have e1 : sliced (some ⟨g, 0, none⟩) (j + 1) n c 1 = .slice (some ⟨g, j + 1, none⟩) (n - (j + 1)) (c - (j + 1)) := by
      unfold sliced; rw [if_neg (by omega)]; simp [Addr.add]
    have e2 : ∃ a, sliced (some ⟨g, 0, none⟩) j n c 1 = .slice (some a) (n - j) (c - j) ∧ ∀ i, a.add i = ⟨g, j + i, none⟩ := by
      unfold sliced
      rw [if_neg (by omega)]
      exact ⟨_, rfl, fun i => by by_cases h1 : j = 0 <;> by_cases h2 : i = 0 <;> simp [Addr.add, h1, h2]⟩
    obtain ⟨ad, e2, hadd⟩ := e2
    have hcl : ((xs.drop j).take (n - (j + 1))).length = n - (j + 1) := by simp; omega
    have hr := run_copy_row (P := P) w t t ty e g (j + 1) (n - (j + 1)) (c - (j + 1)) ad (n - j) (c - j) cur e ((xs.drop j).take (n - (j + 1))) ht hs hg
      (by rw [hcl]; exact (Nat.min_eq_right (by omega)).symm)
      (fun i v hi => by
        rw [hadd, cell_blk hg]
        rw [List.getElem?_take] at hi
        split at hi
        · rw [List.getElem?_drop, ← htk, List.getElem?_take] at hi
          split at hi
          · simpa using hi
          · simp at hi
        · simp at hi)
      (by rw [hcl]; omega) (fun v hv => h1 v (List.mem_of_mem_drop (List.mem_of_mem_take hv)))
    refine ⟨_, by rw [e1, e2, hr, hcl], ⟨?_, .inr ⟨g, c, _, rfl, Nat.zero_le _, setRow_heap w g cur _ e _ hg, hn, hcm, ?_, ?_⟩⟩, ⟨rfl, rfl, rfl, by simp, fun k _ hk => setRow_other w g k _ hk⟩⟩
    · simp only [List.length_append, List.length_take, List.length_drop]; omega
    · simp only [List.size_toArray, List.length_append, List.length_take, List.length_drop, Array.length_toList, hcl]; omega
    · simp only [Nat.mul_one]
      have hlen : (xs.take (j + 1) ++ (xs.drop j).take (n - (j + 1))).length = n := by simp only [List.length_append, List.length_take, List.length_drop]; omega
      have hx : cur.toList.take (j + 1) = xs.take (j + 1) := by rw [← htk, List.take_take, Nat.min_eq_left (by omega)]
      rw [hx]
      exact List.take_left' hlen

theorem ownsRow_set {w : World} {e g n c j : Nat} {xs : List Value} (h : w.ownsRow 0 e 1 (.slice (some ⟨g, 0, none⟩) n c) n xs) (hj : j < n) (v : Value) :
    (w.setCell ⟨g, j, none⟩ v).ownsRow 0 e 1 (.slice (some ⟨g, 0, none⟩) n c) n (xs.set j v) := by
  obtain ⟨hl, ⟨hv, _⟩ | ⟨g', cap, cur, hv, _, hg, hn, hcm, hcs, htk⟩⟩ := h
  · simp at hv
  simp only [Value.slice.injEq, Option.some.injEq, Addr.mk.injEq] at hv
  obtain ⟨⟨rfl, _⟩, _, rfl⟩ := hv
  refine ⟨by simpa using hl, .inr ⟨g, c, cur.setIfInBounds j v, rfl, Nat.zero_le _, heap_setCell_at hg, hn, hcm, by simpa using hcs, ?_⟩⟩
  simp only [Nat.mul_one] at htk ⊢
  rw [Array.toList_setIfInBounds, ← htk, List.take_set]

theorem wp_copy_run {P : Program} {w : World} {o : Oper} {a : Act} {K : Act → World → Prop} {Q : Exit → Act → World → Prop} (d s : Operand) (t : TypeId)
    (ho : o.op = .call { callee := .builtin .copy, args := #[d, s], argTypes := #[t, t] })
    {v u r : Value} {w' : World} (hs : a.eval d = v) (hx : a.eval s = u) (hr' : (Builtin.copy_ #[t, t] o.type #[v, u]).run P w = .ok r w') (h : K (a.put o.dst r) w') : o.wp P a w K Q := by
  unfold Oper.wp
  simp only [execOp, ho, resolve, invoke, builtin, hs, hx, List.map_toArray, List.map_cons, List.map_nil, Sem.run_bind, hr', Result.andThen, Sem.run_pure, Oper.upon]
  exact h
end Go.Proofs.YtnjaaagiindclaaGreatDoor

/-
  A span is put: plain facts.
-/
namespace Go.Proofs.YtnjaaagiindclaaGreatDoor
open Go.RowKit Go.Deep

theorem shift_list {α : Type} (P Q : List α) (z v : α) : (((P ++ Q ++ [z]).take (P.length + 1)) ++ ((P ++ Q ++ [z]).drop P.length).take ((P ++ Q).length + 1 - (P.length + 1))).set P.length v = P ++ v :: Q := by
  have e1 : ((P ++ Q ++ [z]).drop P.length).take ((P ++ Q).length + 1 - (P.length + 1)) = Q := by
    rw [List.append_assoc, List.drop_left' rfl]
    exact List.take_left' (by simp)
  obtain ⟨y, hy⟩ : ∃ y, (P ++ Q ++ [z]).take (P.length + 1) = P ++ [y] := by
    rw [List.append_assoc, List.take_append, List.take_of_length_le (by omega)]
    cases Q with
    | nil => exact ⟨z, by simp⟩
    | cons q Q => exact ⟨q, by simp⟩
  rw [e1, hy, List.append_assoc, List.set_append_right _ _ (Nat.le_refl _)]
  simp

theorem mem_takeWhile {α : Type} {p : α → Bool} {l : List α} {a : α} (h : a ∈ l.takeWhile p) : p a = true := by
  induction l with
  | nil => simp at h
  | cons b l ih =>
    by_cases hb : p b = true
    · rw [List.takeWhile_cons_of_pos hb] at h
      rcases List.mem_cons.1 h with rfl | h
      · exact hb
      · exact ih h
    · rw [List.takeWhile_cons_of_neg hb] at h; simp at h

theorem RowOf.put {L r : List It} {x : It} (h : RowOf L x.kd r) (hB : ∀ y ∈ L, y.base ≠ x.base) :
    ∃ pre post, r = pre ++ post ∧ pos r x.base = pre.length ∧ RowOf (L ++ [x]) x.kd (pre ++ x :: post) := by
  have hsp : r = r.takeWhile (fun y => decide (y.base < x.base)) ++ r.dropWhile (fun y => decide (y.base < x.base)) := List.takeWhile_append_dropWhile.symm
  have hx : ∀ y ∈ r.takeWhile (fun y => decide (y.base < x.base)), y.base < x.base := fun y hy => by simpa using mem_takeWhile hy
  have hpos : pos r x.base = (r.takeWhile (fun y => decide (y.base < x.base))).length := rfl
  have hhd : ∀ y z, r.dropWhile (fun y => decide (y.base < x.base)) = y :: z → x.base ≤ y.base := by
    intro y z he
    have := List.head_dropWhile_not (p := fun y : It => decide (y.base < x.base)) (l := r) (by rw [he]; simp)
    simp only [he, List.head_cons, decide_eq_false_iff_not] at this
    omega
  refine ⟨_, _, hsp, hpos, ?_⟩
  have ho := h.ord
  have hm := h.mem
  clear hpos
  generalize r.takeWhile (fun y => decide (y.base < x.base)) = pre at *
  generalize r.dropWhile (fun y => decide (y.base < x.base)) = post at *
  subst hsp
  rw [List.pairwise_append] at ho
  have hpost : ∀ y ∈ post, x.base < y.base := by
    intro y hy
    have hne := hB y ((hm y).1 (List.mem_append_right _ hy)).1
    cases post with
    | nil => simp at hy
    | cons q post =>
      have h1 := hhd q post rfl
      rcases List.mem_cons.1 hy with rfl | hy
      · omega
      · have := (List.pairwise_cons.1 ho.2.1).1 y hy; omega
  refine ⟨?_, fun y => ?_⟩
  · rw [List.pairwise_append]
    refine ⟨ho.1, List.pairwise_cons.2 ⟨hpost, ho.2.1⟩, fun y hy z hz => ?_⟩
    rcases List.mem_cons.1 hz with rfl | hz
    · exact hx y hy
    · exact ho.2.2 y hy z hz
  · have := hm y
    simp only [List.mem_append, List.mem_cons, List.not_mem_nil, or_false] at this ⊢
    constructor
    · rintro (h1 | rfl | h1)
      · exact ⟨.inl (this.1 (.inl h1)).1, (this.1 (.inl h1)).2⟩
      · exact ⟨.inr rfl, rfl⟩
      · exact ⟨.inl (this.1 (.inr h1)).1, (this.1 (.inr h1)).2⟩
    · rintro ⟨h1 | rfl, h2⟩
      · rcases this.2 ⟨h1, h2⟩ with h3 | h3
        · exact .inl h3
        · exact .inr (.inr h3)
      · exact .inr (.inl rfl)

/-- the sets behind a put -/
theorem put_done {w u4 w5 wa w6 w8 w9 : World} {s m1 m2 m3 c c6 g : Nat} {i1 i2 : List (Int × Value)} {i3 : List (Kd × Value)} {L r pre post : List It} {F : Nat → Prop} {x : It} {a : Option Addr}
    (H : Sets w s m1 m2 m3 i1 i2 i3 L) (hF : ∀ b, sfp s m1 m2 m3 i3 L b → F b) (hxb : x.b = w.heap.size) (hI : ∀ y ∈ L, y.id ≠ x.id) (hB : ∀ y ∈ L, y.base ≠ x.base)
    (hv : (mapGet i3 x.kd).getD (.slice none 0 0) = .slice a r.length c) (hr' : RowOf (L ++ [x]) x.kd (pre ++ x :: post)) (hsp : r = pre ++ post)
    (Lids : MapIs ienc u4 m1 (mapSet i1 x.id x.ptr)) (Lbases : MapIs benc u4 m2 (mapSet i2 x.base x.ptr)) (LF : Fr (fun b => b = m1 ∨ b = m2) w u4) (F5 : Fr (fun _ => False) u4 w5) (FA : Fr (fun _ => False) w5 wa)
    (F6 : Fr (fun b => some b = (Value.slice a r.length c).ownBlock) wa w6) (hg6 : (Value.slice a r.length c).ownBlock = some g ∨ wa.heap.size ≤ g)
    (F8 : Fr (fun b => b = g) w6 w8) (N8 : w8.heap[x.b]? = some (.cells x.cells 167 (0, 0))) (hgx : g ≠ x.b)
    (O8 : w8.ownsRow 0 158 1 (.slice (some ⟨g, 0, none⟩) (r.length + 1) c6) (r.length + 1)
      (((r.map It.ptr ++ [Value.pointer none]).take (pre.length + 1) ++ ((r.map It.ptr ++ [Value.pointer none]).drop pre.length).take (r.length + 1 - (pre.length + 1))).set pre.length x.ptr))
    (M9 : MapIs kenc w9 m3 (mapSet i3 x.kd (.slice (some ⟨g, 0, none⟩) (r.length + 1) c6))) (F9 : Fr (fun b => b = m3) w8 w9) :
    Is w9 s (L ++ [x]) (fun b => F b ∨ w.heap.size ≤ b) ∧ Fr F w w9 := by
  have hown : ∀ g, (Value.slice a r.length c).ownBlock = some g → (x.kd, Value.slice a r.length c) ∈ i3 := fun g hg => H.core.own hv hg
  have hm1 : ∀ g, (Value.slice a r.length c).ownBlock = some g → g ≠ m1 ∧ g ≠ m2 ∧ g ≠ m3 ∧ g < w.heap.size := fun g hg => by
    obtain ⟨r', _, ho'⟩ := H.core.row _ _ (hown g hg)
    obtain ⟨cur, hc⟩ := ownsRow_blk ho' hg
    exact ⟨H.ids.ne hc, H.bases.ne hc, H.core.sets.ne hc, lt_blk hc⟩
  have ga : Fr (fun b => b = m1 ∨ b = m2) w wa := (LF.trans F5 (fun _ _ => False.elim)).trans FA (fun _ _ => False.elim)
  have hsz := ga.size
  have hgw : (Value.slice a r.length c).ownBlock = some g ∨ w.heap.size ≤ g := hg6.imp_right (fun h => by omega)
  have l1 := H.ids.lt
  have l2 := H.bases.lt
  have l3 := H.core.sets.lt
  have ls := lt_blk H.core.root
  have hgm : g ≠ m1 ∧ g ≠ m2 ∧ g ≠ m3 := by
    rcases hgw with h1 | h1
    · exact ⟨(hm1 g h1).1, (hm1 g h1).2.1, (hm1 g h1).2.2.1⟩
    · exact ⟨by omega, by omega, by omega⟩
  have g8 : Fr (fun b => b = m1 ∨ b = m2 ∨ some b = (Value.slice a r.length c).ownBlock) w w8 := by
    refine ((ga.mono (fun _ _ h => h.elim .inl (fun h => .inr (.inl h)))).trans F6 (fun _ _ h => .inr (.inr h))).trans F8 (fun b hb he => ?_)
    rcases hgw with h1 | h1
    · exact .inr (.inr (by rw [he]; exact h1.symm))
    · omega
  have g9 : Fr (fun b => (b = m1 ∨ b = m2) ∨ b = m3 ∨ some b = (Value.slice a r.length c).ownBlock) w w9 :=
    (g8.mono (fun _ _ h => h.elim (fun h => .inl (.inl h)) (fun h => h.elim (fun h => .inl (.inr h)) (fun h => .inr (.inr h))))).trans F9 (fun _ _ h => .inr (.inl h))
  have hrow := shift_list (pre.map It.ptr) (post.map It.ptr) (Value.pointer none) x.ptr
  rw [hsp] at O8
  simp only [List.map_append, List.length_append, List.length_map] at hrow O8
  rw [hrow] at O8
  have hlen : (pre ++ x :: post).length = pre.length + post.length + 1 := by simp; omega
  have O9 : w9.ownsRow 0 158 1 (.slice (some ⟨g, 0, none⟩) (r.length + 1) c6) (pre ++ x :: post).length ((pre ++ x :: post).map It.ptr) := by
    rw [hsp, hlen]
    simp only [List.map_append, List.map_cons, List.length_append]
    exact ownsRow_keep O8 F9 (fun g' hg' he => by
      simp only [Value.ownBlock, Option.some.injEq] at hg'
      subst hg'
      exact hgm.2.2 he)
  have hnode : ∀ y ∈ L ++ [x], w9.heap[y.b]? = some (.cells y.cells 167 (0, 0)) := fun y hy => by
    rcases List.mem_append.1 hy with hy | hy
    · refine g9.at (H.core.node y hy) ?_
      rintro ((h | h) | h | h)
      · exact H.ids.ne (H.core.node y hy) h
      · exact H.bases.ne (H.core.node y hy) h
      · exact H.core.sets.ne (H.core.node y hy) h
      · exact (H.core.sepR _ _ _ (hown _ h.symm) h.symm).2 y hy rfl
    · simp only [List.mem_singleton] at hy
      subst hy
      exact F9.at N8 (by omega)
  have hnot : ∀ y ∈ L, y.b < w.heap.size := fun y hy => lt_blk (H.core.node y hy)
  have nd : ∀ {β : Type} (f : It → β), (L.map f).Nodup → (∀ y ∈ L, f y ≠ f x) → ((L ++ [x]).map f).Nodup := fun f h1 h2 => by
    rw [List.map_append, List.nodup_append]
    refine ⟨h1, by simp, fun a ha b hb => ?_⟩
    simp only [List.map_cons, List.map_nil, List.mem_singleton] at hb
    obtain ⟨y, hy, rfl⟩ := List.mem_map.1 ha
    rw [hb]; exact h2 y hy
  have hmem : ∀ y, y ∈ L ++ [x] ↔ y ∈ L ∨ y = x := fun y => by simp
  have C9 : Core w9 s m1 m2 m3 (mapSet i3 x.kd (.slice (some ⟨g, 0, none⟩) (r.length + 1) c6)) (L ++ [x]) :=
    H.core.turn (S := fun b => b = m1 ∨ b = m2) hv (fun y hy => by rw [hmem]; exact ⟨fun h => h.elim (fun h => h) (fun h => absurd (by rw [h]) hy), .inl⟩) hr' hnode
      (nd _ H.core.ndb (fun y hy => by have := hnot y hy; omega)) (nd _ H.core.ndB hB) g9 (fun h => h.elim (H.ids.ne H.core.root) (H.bases.ne H.core.root))
      (fun k u g hm hg h => by
        obtain ⟨r', _, ho'⟩ := H.core.row _ _ hm
        obtain ⟨cur, hc⟩ := ownsRow_blk ho' hg
        exact h.elim (H.ids.ne hc) (H.bases.ne hc)) M9 O9 (fun g' hg' => by
          simp only [Value.ownBlock, Option.some.injEq] at hg'
          subst hg'; exact hgw)
      (fun y hy => ⟨fun g' hg' => by
          simp only [Value.ownBlock, Option.some.injEq] at hg'
          subst hg'
          rcases (hmem y).1 hy with hy | rfl
          · rcases hgw with h1 | h1
            · exact (H.core.sepR _ _ _ (hown _ h1) h1).2 y hy
            · have := hnot y hy; omega
          · exact hgx, by
          rcases (hmem y).1 hy with hy | rfl
          · exact .inl hy
          · exact .inr (by omega)⟩)
  have q1 : ∀ z v, (z, v) ∈ mapSet i1 x.id x.ptr ↔ ∃ y ∈ L ++ [x], y.id = z ∧ v = y.ptr := fun z u => by
    rw [mem_mapSet H.ids.nodup, H.idsL]
    constructor
    · rintro (h | ⟨_, y, hy, h2, h3⟩)
      · simp only [Prod.mk.injEq] at h; exact ⟨x, (hmem x).2 (.inr rfl), h.1.symm, h.2⟩
      · exact ⟨y, (hmem y).2 (.inl hy), h2, h3⟩
    · rintro ⟨y, hy, h2, h3⟩
      rcases (hmem y).1 hy with hy | rfl
      · exact .inr ⟨by rw [← h2]; exact hI y hy, y, hy, h2, h3⟩
      · exact .inl (by rw [← h2, h3])
  have q2 : ∀ z v, (z, v) ∈ mapSet i2 x.base x.ptr ↔ ∃ y ∈ L ++ [x], y.base = z ∧ v = y.ptr := fun z u => by
    rw [mem_mapSet H.bases.nodup, H.basesL]
    constructor
    · rintro (h | ⟨_, y, hy, h2, h3⟩)
      · simp only [Prod.mk.injEq] at h; exact ⟨x, (hmem x).2 (.inr rfl), h.1.symm, h.2⟩
      · exact ⟨y, (hmem y).2 (.inl hy), h2, h3⟩
    · rintro ⟨y, hy, h2, h3⟩
      rcases (hmem y).1 hy with hy | rfl
      · exact .inr ⟨by rw [← h2]; exact hB y hy, y, hy, h2, h3⟩
      · exact .inl (by rw [← h2, h3])
  have fu : Fr (fun b => some b = (Value.slice a r.length c).ownBlock ∨ b = g ∨ b = m3) u4 w9 :=
    ((((F5.trans FA (fun _ _ h => h)).mono (fun _ _ => False.elim)).trans F6 (fun _ _ h => .inl h)).trans F8 (fun _ _ h => .inr (.inl h))).trans F9 (fun _ _ h => .inr (.inr h))
  have A1 := Lids.fr fu (by rintro (h | h | h) <;> first | exact (hm1 _ h.symm).1 rfl | exact hgm.1 h.symm | exact H.sepM.2.1 h)
  have A2 := Lbases.fr fu (by rintro (h | h | h) <;> first | exact (hm1 _ h.symm).2.1 rfl | exact hgm.2.1 h.symm | exact H.sepM.2.2 h)
  refine ⟨⟨m1, m2, m3, _, _, _, ⟨C9, A1, A2, q1, q2, nd _ H.ndI hI, H.sepM⟩, fun b hb => ?_⟩, g9.mono (fun b _ hb => hF b ?_)⟩
  · rcases hb with hb | hb | hb | hb | ⟨y, hy, hb⟩ | ⟨k, u, hm, hb⟩
    · exact .inl (hF b (.inl hb))
    · exact .inl (hF b (.inr (.inl hb)))
    · exact .inl (hF b (.inr (.inr (.inl hb))))
    · exact .inl (hF b (.inr (.inr (.inr (.inl hb)))))
    · rcases (hmem y).1 hy with hy | rfl
      · exact .inl (hF b (.inr (.inr (.inr (.inr (.inl ⟨y, hy, hb⟩))))))
      · exact .inr (by omega)
    · rcases (mem_mapSet H.core.sets.nodup _).1 hm with he | ⟨hne, hm⟩
      · simp only [Prod.mk.injEq] at he
        obtain ⟨rfl, rfl⟩ := he
        simp only [Value.ownBlock, Option.some.injEq] at hb
        subst hb
        rcases hgw with h1 | h1
        · exact .inl (hF _ (.inr (.inr (.inr (.inr (.inr ⟨_, _, hown _ h1, h1⟩))))))
        · exact .inr h1
      · exact .inl (hF b (.inr (.inr (.inr (.inr (.inr ⟨k, u, hm, hb⟩))))))
  · rcases hb with (hb | hb) | hb | hb
    · exact .inr (.inl hb)
    · exact .inr (.inr (.inl hb))
    · exact .inr (.inr (.inr (.inl hb)))
    · exact .inr (.inr (.inr (.inr (.inr ⟨_, _, hown _ hb.symm, hb.symm⟩))))
end Go.Proofs.YtnjaaagiindclaaGreatDoor

/-
  A span is put.
-/
namespace Go.Proofs.YtnjaaagiindclaaGreatDoor
open Go.RowKit Go.Deep

/-- the two maps have taken the span in -/
structure Listed (w w1 u4 : World) (s m1 m2 m3 : Nat) (i1 i2 : List (Int × Value)) (i3 : List (Kd × Value)) (L : List It) (x : It) : Prop where
  ids : MapIs ienc u4 m1 (mapSet i1 x.id x.ptr)
  bases : MapIs benc u4 m2 (mapSet i2 x.base x.ptr)
  core : Core u4 s m1 m2 m3 i3 L
  node : u4.heap[x.b]? = some (.cells x.cells 167 (0, 0))
  fr : Fr (fun b => b = m1 ∨ b = m2) w u4

/-- the words of the two maps' entries, one behind the other -/
theorem row_some {w : World} {T n c : Nat} {a : Option Addr} {xs : List Value} (h : w.ownsRow 0 T 1 (.slice a (n + 1) c) (n + 1) xs) : ∃ g, a = some ⟨g, 0, none⟩ := by
  rcases h with ⟨_, ⟨_, hv⟩ | ⟨g, cap, cur, hv, _⟩⟩
  · omega
  · simp only [Value.slice.injEq] at hv; exact ⟨g, hv.1⟩

theorem row_cell {w : World} {T n c g j : Nat} {xs : List Value} (h : w.ownsRow 0 T 1 (.slice (some ⟨g, 0, none⟩) n c) n xs) (hj : j < n) : ∃ v, w.cell? ⟨g, j, none⟩ = some v := by
  obtain ⟨hl, ⟨hv, _⟩ | ⟨g', cap, cur, hv, _, hg, hn, hcm, hcs, htk⟩⟩ := h
  · simp at hv
  · simp only [Value.slice.injEq, Option.some.injEq, Addr.mk.injEq] at hv
    obtain ⟨⟨rfl, _⟩, _, rfl⟩ := hv
    exact ⟨_, by rw [cell_blk hg]; exact Array.getElem?_eq_getElem (by omega)⟩

theorem listed {w : World} {s m1 m2 m3 : Nat} {i1 i2 : List (Int × Value)} {i3 : List (Kd × Value)} {L : List It} (h : Sets w s m1 m2 m3 i1 i2 i3 L) (x : It) (hxb : x.b = w.heap.size) (hI : ∀ y ∈ L, y.id ≠ x.id) (hB : ∀ y ∈ L, y.base ≠ x.base) :
    ∃ st1 st2 u1 u2 u3 u4,
      (Instr.mapEntry 159 (.map (some m1)) (.int .i64 x.id)).run Tryz.prog (w.alloc (.cells x.cells 167)).drew = .ok (.tuple #[.pointer none, st1]) u1 ∧
      (Instr.entryStore 159 (.map (some m1)) st1 (.pointer (some ⟨x.b, 0, none⟩))).run Tryz.prog u1 = .ok () u2 ∧
      (Instr.mapEntry 160 (.map (some m2)) (.int .u64 x.base)).run Tryz.prog u2 = .ok (.tuple #[.pointer none, st2]) u3 ∧
      (Instr.entryStore 160 (.map (some m2)) st2 (.pointer (some ⟨x.b, 0, none⟩))).run Tryz.prog u3 = .ok () u4 ∧
      (∀ u, u = u1 ∨ u = u2 ∨ u = u3 ∨ u = u4 → u.cell? ⟨s, 0, none⟩ = some (.map (some m1)) ∧ u.cell? ⟨s, 1, none⟩ = some (.map (some m2))) ∧ Listed w (w.alloc (.cells x.cells 167)) u4 s m1 m2 m3 i1 i2 i3 L x := by
  have f0 : Fr (fun _ => False) w (w.alloc (.cells x.cells 167)).drew := ((Fr.refl _ w).alloc _).drew
  have k1 : x.id ∉ i1.map (·.1) := fun hm => by
    obtain ⟨⟨k, v⟩, hp, he⟩ := List.mem_map.1 hm
    obtain ⟨y, hy, h1, _⟩ := (h.idsL _ _).1 hp
    exact hI y hy (h1.trans he)
  have k2 : x.base ∉ i2.map (·.1) := fun hm => by
    obtain ⟨⟨k, v⟩, hp, he⟩ := List.mem_map.1 hm
    obtain ⟨y, hy, h1, _⟩ := (h.basesL _ _).1 hp
    exact hB y hy (h1.trans he)
  have hn0 : (w.alloc (.cells x.cells 167)).drew.heap[x.b]? = some (.cells x.cells 167 (0, 0)) := by
    show (w.alloc _).heap[_]? = _; rw [hxb, heap_alloc, if_pos rfl]
  have C0 := h.core.quiet f0
  have I0 := h.ids.fr f0 (fun x => x)
  have B0 := h.bases.fr f0 (fun x => x)
  obtain ⟨st1, u1, r1, e1, f1⟩ := run_map_entry_new keyLaw_i Tryz.underlying159 I0 x.id k1 (.pointer none) (zero_item _)
  have hm1s : s ≠ m1 := h.ids.ne h.core.root
  have hm2s : s ≠ m2 := h.bases.ne h.core.root
  have C1 := C0.keep_map I0 h.sepM.2.1 f1
  have N1 := f1.at hn0 (I0.ne hn0)
  have B1 := B0.fr f1 (fun e => h.sepM.1 e.symm)
  obtain ⟨u2, r2, e2, f2⟩ := run_entry_store 159 e1 k1 (.pointer (some ⟨x.b, 0, none⟩))
  have C2 := (C0.keep_map I0 h.sepM.2.1 (f1.trans f2 (fun _ _ h => h)))
  have N2 := (f1.trans f2 (fun _ _ h => h)).at hn0 (I0.ne hn0)
  have B2 := B1.fr f2 (fun e => h.sepM.1 e.symm)
  obtain ⟨st2, u3, r3, e3, f3⟩ := run_map_entry_new keyLaw_b Tryz.underlying160 B2 x.base k2 (.pointer none) (zero_item _)
  have C3 := C2.keep_map B2 h.sepM.2.2 f3
  obtain ⟨u4, r4, e4, f4⟩ := run_entry_store 160 e3 k2 (.pointer (some ⟨x.b, 0, none⟩))
  have f34 := f3.trans f4 (fun _ _ h => h)
  have C4 := C2.keep_map B2 h.sepM.2.2 f34
  refine ⟨st1, st2, u1, u2, u3, u4, r1, r2, r3, r4, ?_, ⟨e2.fr f34 h.sepM.1, e4, C4, f34.at N2 (B2.ne N2), ?_⟩⟩
  · rintro u (rfl | rfl | rfl | rfl)
    · exact ⟨(blk3 C1.root).1, (blk3 C1.root).2.1⟩
    · exact ⟨(blk3 C2.root).1, (blk3 C2.root).2.1⟩
    · exact ⟨(blk3 C3.root).1, (blk3 C3.root).2.1⟩
    · exact ⟨(blk3 C4.root).1, (blk3 C4.root).2.1⟩
  · exact ((f0.mono (fun _ _ => False.elim)).trans (f1.trans f2 (fun _ _ h => h)) (fun _ _ h => .inl h)).trans f34 (fun _ _ h => .inr h)

set_option maxRecDepth 100000 in
set_option maxRecDepth 100000 in
set_option maxHeartbeats 8000000 in
theorem put_ok {s : Nat} {L : List It} {F : Nat → Prop} (w : World) (h0 : Is w s L F) (id base cls : Int) (np fu sw : Bool) (hid : 1 ≤ id) (hc : 0 ≤ cls ∧ cls < 68) (hI : ∀ y ∈ L, y.id ≠ id) (hB : ∀ y ∈ L, y.base ≠ base) (hL : L.length ≤ 1000000) :
    Calls Tryz.prog 226 #[.pointer (some ⟨s, 0, none⟩), .int .i64 id, .int .u64 base, .int .i64 cls, .bool np, .bool fu, .bool sw] w fun e w' => e = .returned (.int .i64 0) ∧
      Is w' s (L ++ [⟨w.heap.size, id, base, (cls, np, fu, sw)⟩]) (fun b => F b ∨ w.heap.size ≤ b) ∧ Fr F w w' := by
  obtain ⟨m1, m2, m3, i1, i2, i3, H0, hF⟩ := h0
  have H := Lib.hid H0
  have HF := Lib.hid hF
  obtain ⟨c1, c2, c3⟩ := blk3 H0.core.root
  have n1 : ¬ id < 1 := by omega
  have n2 : ¬ cls < 0 := by omega
  have n3 : ¬ 68 ≤ cls := by omega
  have look := run_id (k := id) H0.ids (H0.find_none hI)
  have look2 := run_base (k := base) H0.bases (H0.at_none hB)
  have hsl := lt_blk H0.core.root
  obtain ⟨st1, st2, u1, u2, u3, u4, r1, r2, r3, r4, hc4, hl⟩ := listed H0 ⟨w.heap.size, id, base, (cls, np, fu, sw)⟩ rfl hI hB
  have LS := Lib.hid hl
  obtain ⟨a1, a2⟩ := hc4 u1 (.inl rfl)
  obtain ⟨b1, b2⟩ := hc4 u2 (.inr (.inl rfl))
  obtain ⟨d1, d2⟩ := hc4 u3 (.inr (.inr (.inl rfl)))
  obtain ⟨e1, e2⟩ := hc4 u4 (.inr (.inr (.inr rfl)))
  have HI := Lib.hid (And.intro hI hB)
  clear H0 hF hid hc hI hB hl hc4 c3
  simp only at r1 r2 r3 r4
  go_enter Tryz.func226, Tryz.ntmps226
  go_wp2_with fail
  unfold It.cells at r1
  go_region
  clear c1 c2 look look2 a1 a2 b1 b2 d1 d2 e1 e2 r1 r2 r3 r4 n1 n2 n3
  obtain ⟨x0, x1, x2, x3, x4, x5⟩ := blk6 LS.out.node
  have c3 := (blk3 LS.out.core.root).2.2
  obtain ⟨r, a, c, hv, hr, ho⟩ := LS.out.core.look (cls, np, fu, sw)
  have hrl : r.length ≤ 1000000 := Nat.le_trans (by rw [row_len hr H.out.core.ndb]; exact List.length_filter_le _ _) hL
  have hp := place_any u4 LS.out.core (cls, np, fu, sw) base r a c hv hr ho hrl
  obtain ⟨pre, post, hsp, hpos, hput⟩ := RowOf.put (x := ⟨w.heap.size, id, base, (cls, np, fu, sw)⟩) hr HI.out.2
  rw [show pos r base = pre.length from hpos] at hp
  have hj : pre.length ≤ r.length := by rw [hsp]; simp
  obtain ⟨j, hjd⟩ : ∃ j, j = pre.length := ⟨_, rfl⟩
  rw [← hjd] at hp hj
  have PD := Lib.hid (And.intro hjd (And.intro hsp hput))
  clear hjd hsp hpos hput
  unfold kenc at hp
  have HP := Lib.hid hp
  have HV := Lib.hid hv
  have HR := Lib.hid hr
  have HO := Lib.hid ho
  clear hp hv hr ho
  simp only at x0 x1 x2 x3 x4 x5
  go_wp2_with (go_at_call 234; refine HP.out.mono ?_; rintro e w5 ⟨rfl, f5⟩; have F5 := Lib.hid f5; clear f5)
  clear x0 x1 x2 x3 x4 x5 c3
  have C5 := Lib.hid (LS.out.core.quiet F5.out)
  have N5 := Lib.hid (F5.out.at LS.out.node (fun x => x))
  have O5 := Lib.hid (ownsRow_keep HO.out F5.out (fun _ _ x => x))
  obtain ⟨x0, x1, x2, x3, x4, x5⟩ := blk6 N5.out
  simp only at x0 x1 x2 x3 x4 x5
  have c3 := (blk3 C5.out.root).2.2
  have look := run_row (w := w5.drew) C5.out.sets HV.out
  have fa : Fr (fun _ => False) w5 (w5.alloc (.cells #[.pointer none] 158)).drew := ((Fr.refl _ w5).alloc _).drew
  have look2 := run_row (C5.out.sets.fr fa (fun x => x)) HV.out
  unfold kenc at look look2
  simp only at look look2
  obtain ⟨i0, hi, hz0, hz1, hz2⟩ := info_parts info_item
  obtain ⟨v6, w6, r6, o6, f6, g6⟩ := run_append_row (P := Tryz.prog) (w := (w5.alloc (.cells #[.pointer none] 158)).drew) 288 288 158 i0 _ 1 8 Tryz.underlying288 hi hz0 hz1 hz2 (by rfl) (by decide)
    (.slice a r.length c) r.length (r.map It.ptr) (ownsRow_keep O5.out fa (fun _ _ x => x)) (.slice (some ⟨w5.heap.size, 0, none⟩) 1 1) 1 [.pointer none]
    (Rd.new (w := (w5.alloc (.cells #[.pointer none] 158)).drew) (t := 158) (vs := [.pointer none]) (by show (w5.alloc _).heap[_]? = _; rw [heap_alloc, if_pos rfl]) 1 1 rfl) (by simp [Value.oneCell']) (by simp only [maxLen]; omega) (by omega)
  obtain ⟨a6, c6, rfl⟩ := ownsRow_form o6
  have G6 := Lib.hid (And.intro f6 g6)
  have O6 := Lib.hid o6
  have FA := Lib.hid fa
  have y3 := cell_through fa c3 (fun x => x)
  have y0 := cell_through fa x2 (fun x => x)
  have y1 := cell_through fa x3 (fun x => x)
  have y2 := cell_through fa x4 (fun x => x)
  have y4 := cell_through fa x5 (fun x => x)
  have hs5 := lt_blk C5.out.root
  have hx5 := lt_blk N5.out
  simp only at hx5
  have P6 := Lib.hid ((C5.out.quiet fa).past HV.out (n' := r.length) f6)
  have hown : ∀ g, (Value.slice a r.length c).ownBlock = some g → g < w.heap.size := fun g hg => by
    obtain ⟨r', _, ho'⟩ := H.out.core.row _ _ (H.out.core.own HV.out hg)
    obtain ⟨cur, hc⟩ := ownsRow_blk ho' hg
    exact lt_blk hc
  have hown := Lib.hid hown
  have N6 := Lib.hid (f6.at (fa.at N5.out (fun x => x)) (fun h => by have := hown.out _ h.symm; simp only at this; omega))
  obtain ⟨z0, z1, z2, z3, z4, z5⟩ := blk6 N6.out
  have t3 := (blk3 P6.out.1).2.2
  simp only at z0 z1 z2 z3 z4 z5
  clear f6 g6 o6 fa x0 x1 z0 z1
  go_wp2_with fail
  go_region_held3 (fun w' => w'.cell? ⟨s, 2, none⟩ = some (.map (some m3)) ∧ w'.cell? ⟨w.heap.size, 2, none⟩ = some (.int .i64 cls) ∧ w'.cell? ⟨w.heap.size, 3, none⟩ = some (.bool np) ∧ w'.cell? ⟨w.heap.size, 4, none⟩ = some (.bool fu) ∧ w'.cell? ⟨w.heap.size, 5, none⟩ = some (.bool sw)) (go_keep) ((refine step_plain (by rfl) (wp_append_row _ _ 288 (by rfl) (by rfl) (by rfl) r6 ?_)))
  all_goals (
    clear look look2 r6 c3 x2 x3 x4 x5 y0 y1 y2 y3 y4
    obtain ⟨g, rfl⟩ := row_some O6.out
    obtain ⟨w7, r7, o7, f7⟩ := run_copy_shift (P := Tryz.prog) (w := w6.drew) 288 3 158 Tryz.underlying288 (by rw [hi]; exact congrArg some hz1) O6.out.drew (j := j) (by omega) (fun v hv => by
      rcases List.mem_append.1 hv with hv | hv
      · obtain ⟨y, _, rfl⟩ := List.mem_map.1 hv; rfl
      · simp at hv; subst hv; rfl)
    have hcap := ownsRow_cap O6.out
    have s1 := run_from 288 158 i0 Tryz.underlying288 hi 1 hz1 (some ⟨g, 0, none⟩) (r.length + 1) c6 .i64 (j + 1) (by omega) hcap
    have s2 := run_from 288 158 i0 Tryz.underlying288 hi 1 hz1 (some ⟨g, 0, none⟩) (r.length + 1) c6 .i64 j (by omega) hcap
    rw [Int.natCast_add, Int.natCast_one] at s1
    generalize sliced (some ⟨g, 0, none⟩) (j + 1) (r.length + 1) c6 1 = sv1 at s1 r7
    generalize sliced (some ⟨g, 0, none⟩) j (r.length + 1) c6 1 = sv2 at s2 r7
    have hA4 : (-9223372036854775808 : Int) ≤ (j : Int) + 1 ∧ (j : Int) + 1 ≤ 9223372036854775807 := by omega
    have hw : IntKind.i64.wrap ((j : Int) + 1) = (j : Int) + 1 := IntWalk.i64_in _ hA4
    clear hA4 hcap
    have O7 := Lib.hid (And.intro o7 f7)
    clear o7 f7
    go_wp2_with fail
    go_region_held3 (fun w' => True) (trivial) ((refine step_plain (by rfl) (wp_copy_run _ _ 288 (by rfl) (by rfl) (by rfl) r7 ?_)))
    clear r7 s1 s2 hw
    have hg : g ≠ s ∧ g ≠ w.heap.size ∧ g ≠ m3 := by
      rcases G6.out.2 g rfl with h1 | h1
      · have hk := H.out.core.own HV.out h1
        obtain ⟨r', _, ho'⟩ := H.out.core.row _ _ hk
        obtain ⟨cur, hc⟩ := ownsRow_blk ho' h1
        exact ⟨(H.out.core.sepR _ _ g hk h1).1, by have := lt_blk hc; omega, H.out.core.sets.ne hc⟩
      · have h2 := C5.out.sets.lt
        have h3 : (w5.alloc (.cells #[.pointer none] 158)).drew.heap.size = w5.heap.size + 1 := by simp
        rw [h3] at h1
        exact ⟨by omega, by omega, by omega⟩
    have HG := Lib.hid hg
    clear hg
    obtain ⟨cur, hcur⟩ := ownsRow_blk O7.out.1 (g := g) rfl
    obtain ⟨vv, hcell⟩ := row_cell O7.out.1 (j := j) (by omega)
    have hfz := free_blk hcur j
    have f8 : Fr (fun b => b = g) w6 (w7.setCell ⟨g, j, none⟩ (.pointer (some ⟨w.heap.size, 0, none⟩))) := ((Fr.refl _ w6).drew.trans O7.out.2 (fun _ _ h => h)).setCell ⟨g, j, none⟩ _ (.inl rfl)
    have R8 := Lib.hid (f8.at P6.out.1 (fun h => HG.out.1 h.symm))
    have N8 := Lib.hid (f8.at N6.out (fun h => HG.out.2.1 h.symm))
    have M8 := P6.out.2.2.fr f8 (fun h => HG.out.2.2 h.symm)
    have O8 := Lib.hid (ownsRow_set O7.out.1 (j := j) (by omega) (.pointer (some ⟨w.heap.size, 0, none⟩)))
    obtain ⟨w9, r9, hm9, f9⟩ := run_map_set (w := (w7.setCell ⟨g, j, none⟩ (.pointer (some ⟨w.heap.size, 0, none⟩))).drew) keyLaw_kind Tryz.underlying161 M8 (cls, np, fu, sw) (.slice (some ⟨g, 0, none⟩) (r.length + 1) c6)
    unfold kenc at r9
    simp only at r9
    have M9 := Lib.hid (And.intro hm9 f9)
    have F8 := Lib.hid f8
    obtain ⟨q0, q1, q2, q3, q4, q5⟩ := blk6 N8.out
    have q6 := (blk3 R8.out).2.2
    simp only at q2 q3 q4 q5
    clear hm9 f9 f8 M8 hcur q0 q1 z2 z3 z4 z5 t3
    go_wp2_with fail
    go_region
    all_goals (
      go_wp2
      go_ret
      have e8 := PD.out.1
      have o8 := O8.out
      rw [e8] at o8 F8
      refine ⟨rfl, put_done (x := ⟨w.heap.size, id, base, (cls, np, fu, sw)⟩) (pre := pre) (post := post) (w8 := w7.setCell ⟨g, pre.length, none⟩ (.pointer (some ⟨w.heap.size, 0, none⟩))) H.out HF.out rfl HI.out.1 HI.out.2 HV.out PD.out.2.2 PD.out.2.1 LS.out.ids LS.out.bases LS.out.fr F5.out FA.out G6.out.1 (G6.out.2 g rfl) F8.out ?_ HG.out.2.1 ?_ M9.out.1 ?_⟩
      · rw [← e8]; exact N8.out
      · exact o8
      · rw [← e8]; exact ⟨M9.out.2.os, M9.out.2.tape, M9.out.2.output, M9.out.2.size, M9.out.2.same⟩))
end Go.Proofs.YtnjaaagiindclaaGreatDoor

/-
  Sets of the call's own: what each word answers.
-/
namespace Go.Proofs.YtnjaaagiindclaaGreatDoor
open Go.RowKit Go.Deep

theorem Is.mono {w : World} {s : Nat} {L : List It} {F G : Nat → Prop} (h : Is w s L F) (hFG : ∀ b, F b → G b) : Is w s L G := by
  obtain ⟨m1, m2, m3, i1, i2, i3, h1, h2⟩ := h
  exact ⟨m1, m2, m3, i1, i2, i3, h1, fun b hb => hFG b (h2 b hb)⟩

theorem Is.quiet {w w' : World} {s : Nat} {L : List It} {F : Nat → Prop} (h : Is w s L F) (hf : Fr (fun _ => False) w w') : Is w' s L F := by
  obtain ⟨m1, m2, m3, i1, i2, i3, h1, h2⟩ := h
  exact ⟨m1, m2, m3, i1, i2, i3, ⟨h1.core.quiet hf, h1.ids.fr hf (fun x => x), h1.bases.fr hf (fun x => x), h1.idsL, h1.basesL, h1.ndI, h1.sepM⟩, h2⟩

/-- sets in blocks from B on; below B the memory is that of w0 -/
structure Own (B s : Nat) (L : List It) (w0 w : World) : Prop where
  is : Is w s L (fun b => B ≤ b)
  fr : Fr (fun b => B ≤ b) w0 w
  le : B ≤ w.heap.size

theorem Own.quiet {B s : Nat} {L : List It} {w0 w w' : World} (h : Own B s L w0 w) (hf : Fr (fun _ => False) w w') : Own B s L w0 w' :=
  ⟨h.is.quiet hf, h.fr.trans hf (fun _ _ => False.elim), Nat.le_trans h.le hf.size⟩

theorem Own.next {B s : Nat} {L L' : List It} {w0 w w' : World} (h : Own B s L w0 w) (hi : Is w' s L' (fun b => B ≤ b ∨ w.heap.size ≤ b)) (hf : Fr (fun b => B ≤ b) w w') : Own B s L' w0 w' :=
  ⟨hi.mono (fun b hb => hb.elim (fun h => h) (fun h1 => Nat.le_trans h.le h1)), h.fr.trans hf (fun _ _ h => h), Nat.le_trans h.le hf.size⟩

theorem Own.done {s : Nat} {L : List It} {w w' : World} (h : Own w.heap.size s L w w') : Fr (fun _ => False) w w' := h.fr.mono (fun b hb h => by omega)

/-- what Put answers, and what is there then -/
def Puts (L : List It) (id base cls : Int) (np fu sw : Bool) (c : Int) (L' : List It) : Prop :=
  ((id < 1 ∨ cls < 0 ∨ 68 ≤ cls) ∧ c = 1 ∧ L' = L) ∨ ((1 ≤ id ∧ 0 ≤ cls ∧ cls < 68) ∧ (∃ x ∈ L, x.id = id ∨ x.base = base) ∧ c = 34 ∧ L' = L) ∨
  ((1 ≤ id ∧ 0 ≤ cls ∧ cls < 68) ∧ (∀ x ∈ L, x.id ≠ id) ∧ (∀ x ∈ L, x.base ≠ base) ∧ c = 0 ∧ ∃ b, L' = L ++ [⟨b, id, base, (cls, np, fu, sw)⟩])

theorem put_any {B s : Nat} {L : List It} {w0 w : World} (h : Own B s L w0 w) (id base cls : Int) (np fu sw : Bool) (hL : L.length ≤ 1000000) :
    Calls Tryz.prog 226 #[.pointer (some ⟨s, 0, none⟩), .int .i64 id, .int .u64 base, .int .i64 cls, .bool np, .bool fu, .bool sw] w fun e w' =>
      ∃ c L', e = .returned (.int .i64 c) ∧ Hid (Own B s L' w0 w' ∧ Puts L id base cls np fu sw c L') := by
  by_cases h1 : id < 1 ∨ cls < 0 ∨ 68 ≤ cls
  · refine (put_arg s w id base cls np fu sw h1).mono fun e w' ⟨he, hw⟩ => ?_
    subst hw
    exact ⟨1, L, he, Lib.hid ⟨h, .inl ⟨h1, rfl, rfl⟩⟩⟩
  · by_cases h2 : ∃ x ∈ L, x.id = id ∨ x.base = base
    · refine (put_twice w h.is id base cls np fu sw (by omega) (by omega) h2).mono fun e w' ⟨he, hw⟩ => ?_
      subst hw
      exact ⟨34, L, he, Lib.hid ⟨h, .inr (.inl ⟨by omega, h2, rfl, rfl⟩)⟩⟩
    · have hI : ∀ y ∈ L, y.id ≠ id := fun y hy he => h2 ⟨y, hy, .inl he⟩
      have hB : ∀ y ∈ L, y.base ≠ base := fun y hy he => h2 ⟨y, hy, .inr he⟩
      refine (put_ok w h.is id base cls np fu sw (by omega) (by omega) hI hB hL).mono fun e w' ⟨he, hi, hf⟩ => ?_
      exact ⟨0, _, he, Lib.hid ⟨h.next hi hf, .inr (.inr ⟨by omega, hI, hB, rfl, _, rfl⟩)⟩⟩

theorem takes {B s : Nat} {L : List It} {w0 w : World} (h : Own B s L w0 w) (k1 : Int) (k2 k3 k4 : Bool) (hL : L.length ≤ 1000000) :
    Calls Tryz.prog 248 #[.pointer (some ⟨s, 0, none⟩), .int .i64 k1, .bool k2, .bool k3, .bool k4] w fun e w' =>
      ∃ id ok L', e = .returned (.tuple #[.int .i64 id, .bool ok]) ∧ Hid (Own B s L' w0 w' ∧ Took L (k1, k2, k3, k4) id ok L') :=
  (take_any w h.is k1 k2 k3 k4 hL).mono fun e w' ⟨id, ok, L', he, ht, hi, hf⟩ => ⟨id, ok, L', he, Lib.hid ⟨h.next hi hf, ht⟩⟩

/-- what Remove answers, and what is left -/
def Removes (L : List It) (id : Int) (c : Int) (L' : List It) : Prop :=
  (c = 35 ∧ L' = L ∧ ∀ x ∈ L, x.id ≠ id) ∨ (c = 0 ∧ (∃ x ∈ L, x.id = id) ∧ L' = L.filter (fun y => decide (y.id ≠ id)))

theorem removes {B s : Nat} {L : List It} {w0 w : World} (h : Own B s L w0 w) (id : Int) (hL : L.length ≤ 1000000) :
    Calls Tryz.prog 178 #[.pointer (some ⟨s, 0, none⟩), .int .i64 id] w fun e w' => ∃ c L', e = .returned (.int .i64 c) ∧ Hid (Own B s L' w0 w' ∧ Removes L id c L') := by
  by_cases hx : ∃ x ∈ L, x.id = id
  · obtain ⟨x, hx, rfl⟩ := hx
    exact (remove_ok w h.is x hx hL).mono fun e w' ⟨he, hi, hf⟩ => ⟨0, _, he, Lib.hid ⟨h.next hi hf, .inr ⟨rfl, ⟨x, hx, rfl⟩, rfl⟩⟩⟩
  · obtain ⟨m1, m2, m3, i1, i2, i3, h1, h2⟩ := h.is
    refine (remove_none w h1 id (fun y hy he => hx ⟨y, hy, he⟩)).mono fun e w' ⟨he, hw⟩ => ?_
    subst hw
    exact ⟨35, L, he, Lib.hid ⟨h, .inl ⟨rfl, rfl, fun y hy he => hx ⟨y, hy, he⟩⟩⟩⟩

theorem counts {B s : Nat} {L : List It} {w0 w : World} (h : Own B s L w0 w) (b : Bool) (hL : L.length ≤ 1000000) :
    Calls Tryz.prog 129 #[.pointer (some ⟨s, 0, none⟩), .bool b] w fun e w' => e = .returned (.int .i64 (num L b)) ∧ Hid (Own B s L w0 w') := by
  obtain ⟨m1, m2, m3, i1, i2, i3, h1, h2⟩ := id h.is
  exact (count_any w h1.core b hL).mono fun e w' ⟨he, hf⟩ => ⟨he, Lib.hid (h.quiet hf)⟩

theorem leasts {B s : Nat} {L : List It} {w0 w : World} (h : Own B s L w0 w) (hL : L.length ≤ 1000000) :
    Calls Tryz.prog 177 #[.pointer (some ⟨s, 0, none⟩)] w fun e w' => ∃ id ok, e = .returned (.tuple #[.int .i64 id, .bool ok]) ∧ Hid (Own B s L w0 w' ∧ Leasts L id ok) := by
  obtain ⟨m1, m2, m3, i1, i2, i3, h1, h2⟩ := id h.is
  exact (least_any w h1.core hL).mono fun e w' ⟨id, ok, he, hl, hf⟩ => ⟨id, ok, he, Lib.hid ⟨h.quiet hf, hl⟩⟩

theorem news (w : World) : Calls Tryz.prog 44 #[] w fun e w' => ∃ s, e = .returned (.pointer (some ⟨s, 0, none⟩)) ∧ Hid (Own w.heap.size s [] w w') :=
  (new_any w).mono fun e w' ⟨s, he, hi, hf⟩ => ⟨s, he, Lib.hid ⟨hi, hf.mono (fun _ _ => False.elim), hf.size⟩⟩
end Go.Proofs.YtnjaaagiindclaaGreatDoor
