/-
  The least span that is not swept.
-/
import Derived.Test.YtanaicjeheacoaaCount
namespace Go.Proofs.Ytanaicjeheacoaa
open Go.RowKit Go.Deep

/-- the best so far, of some kinds -/
def Best (L : List It) (D : List Kd) : Option It → Prop
  | none => ∀ x ∈ L, x.kd ∈ D → x.kd.2.2.2 = true
  | some y => y ∈ L ∧ y.kd.2.2.2 = false ∧ ∀ x ∈ L, x.kd ∈ D → x.kd.2.2.2 = false → y.base ≤ x.base

def lv (o : Option It) : Option Addr := o.map (fun y => ⟨y.b, 0, none⟩)

theorem Best.skip {L : List It} {D : List Kd} {o : Option It} {k : Kd} (h : Best L D o) (hk : ∀ x ∈ L, x.kd = k → x.kd.2.2.2 = false → ∃ y, o = some y ∧ y.base ≤ x.base) : Best L (k :: D) o := by
  cases o with
  | none =>
    intro x hx hD
    rcases List.mem_cons.1 hD with hD | hD
    · cases hs : x.kd.2.2.2 with
      | true => rfl
      | false => obtain ⟨y, hy, _⟩ := hk x hx hD hs; simp at hy
    · exact h x hx hD
  | some y =>
    refine ⟨h.1, h.2.1, fun x hx hD hs => ?_⟩
    rcases List.mem_cons.1 hD with hD | hD
    · obtain ⟨y', hy, h1⟩ := hk x hx hD hs
      cases hy; exact h1
    · exact h.2.2 x hx hD hs

theorem Best.take {L : List It} {D : List Kd} {o : Option It} {k : Kd} {z : It} (h : Best L D o) (hz : z ∈ L) (hzs : z.kd.2.2.2 = false) (hk : ∀ x ∈ L, x.kd = k → z.base ≤ x.base) (ho : ∀ y, o = some y → z.base < y.base) : Best L (k :: D) (some z) := by
  refine ⟨hz, hzs, fun x hx hD hs => ?_⟩
  rcases List.mem_cons.1 hD with hD | hD
  · exact hk x hx hD
  · cases o with
    | none => have := h x hx hD; rw [hs] at this; simp at this
    | some y => have := h.2.2 x hx hD hs; have := ho y rfl; omega

/-- what Least answers -/
def Leasts (L : List It) (id : Int) (ok : Bool) : Prop := (ok = false ∧ id = 0 ∧ ∀ x ∈ L, x.kd.2.2.2 = true) ∨ (ok = true ∧ ∃ y ∈ L, y.id = id ∧ y.kd.2.2.2 = false ∧ ∀ x ∈ L, x.kd.2.2.2 = false → y.base ≤ x.base)

theorem row_head {L : List It} {k : Kd} {x : It} {r : List It} (h : RowOf L k (x :: r)) : x ∈ L ∧ x.kd = k ∧ ∀ y ∈ L, y.kd = k → x.base ≤ y.base := by
  obtain ⟨h1, h2⟩ := (h.mem x).1 (by simp)
  refine ⟨h1, h2, fun y hy hk => ?_⟩
  rcases List.mem_cons.1 ((h.mem y).2 ⟨hy, hk⟩) with rfl | hm
  · exact Int.le_refl _
  · have := (List.pairwise_cons.1 h.ord).1 y hm; omega

theorem row_first {w : World} {B T n c : Nat} {a : Option Addr} {x : It} {r : List It} (h : w.ownsRow B T 1 (.slice a n c) n ((x :: r).map It.ptr)) : ∃ g, a = some ⟨g, 0, none⟩ ∧ w.cell? ⟨g, 0, none⟩ = some (.pointer (some ⟨x.b, 0, none⟩)) := by
  rcases h with ⟨hl, ⟨hv, rfl⟩ | ⟨g, cap, cur, hv, hg, hb, hn, hcm, hcs, ht⟩⟩
  · simp at hl
  · simp only [Value.slice.injEq] at hv
    obtain ⟨rfl, _, rfl⟩ := hv
    refine ⟨g, rfl, ?_⟩
    have := congrArg (fun l => l[0]?) ht
    simp only [List.map_cons, List.getElem?_cons_zero, List.getElem?_take] at this
    rw [cell_blk hb]
    simp at this
    simpa [It.ptr] using this.2

set_option maxHeartbeats 4000000 in
theorem least_any {s m1 m2 m3 : Nat} {i3 : List (Kd × Value)} {L : List It} (w : World) (h : Core w s m1 m2 m3 i3 L) (hL : L.length ≤ 1000000) :
    Calls Try.prog 10 #[.pointer (some ⟨s, 0, none⟩)] w fun e w' => ∃ id ok, e = .returned (.tuple #[.int .i64 id, .bool ok]) ∧ Leasts L id ok ∧ Fr (fun _ => False) w w' := by
  have c3 := (blk3 h.root).2.2
  have hlt := h.sets.lt
  have hm := Lib.hid h.sets
  have H := Lib.hid h
  clear h
  go_enter Try.func10, Try.ntmps10
  go_wp2_with (refine wpList_iter_new (by rfl) Try.underlying51 _ (by rfl) hm.out (by rfl) ?_; intro oo hit; go_simp)
  have hne : w.heap.size ≠ m3 := by omega
  have hlt := Lib.hid hlt
  go_loopg [4] i3.length (fun k n wr => ∃ (av : Option Addr) , n = .pointer av ∧ Hid (∃ (D : List Kd) (o : Option It), av = lv o ∧ Best L D o ∧ Went wr s m1 m2 m3 w.heap.size i3 L w D k))
  case atStart => exact ⟨none, rfl, Lib.hid ⟨[], none, rfl, fun x _ hx => by simp at hx, hit, by simp, by simp, by simp, (Fr.refl _ w).alloc oo⟩⟩
  case round =>
    obtain ⟨av, rfl, hD0⟩ := hrel
    obtain ⟨D, o, rfl, hb0, hw0⟩ := hD0.out
    have HB := Lib.hid hb0
    have HW := Lib.hid hw0
    clear hit hD0 hb0 hw0
    rcases run_iter_next (P := Try.prog) HW.out.iter hne 0 with ⟨hall, hr⟩ | ⟨⟨⟨pk1, pk2, pk3, pk4⟩, pv⟩, hp, hpd, wn, hr, hk1, hk2, hk3⟩
    · have hall2 : ∀ x ∈ L, x.kd ∈ D := fun x hx => by obtain ⟨p, hp, he⟩ := List.mem_map.1 (H.out.all x hx); rw [← he]; exact hall p hp
      have F := Lib.hid HW.out.fr
      cases o with
      | none =>
        have Z := Lib.hid (show Leasts L 0 false from .inl ⟨rfl, rfl, fun x hx => HB.out x hx (hall2 x hx)⟩)
        clear hall hall2 HW HB
        simp only [lv, Option.map_none]
        go_wp2_with (refine wpList_next_run (by rfl) _ (by rfl) (by rfl) hr ?_; clear hr)
        go_ret2
        exact ⟨_, _, rfl, Z.out, F.out⟩
      | some y =>
        have Z := Lib.hid (show Leasts L y.id true from .inr ⟨rfl, y, HB.out.1, rfl, HB.out.2.1, fun x hx hs => HB.out.2.2 x hx (hall2 x hx) hs⟩)
        have y0 : wr.cell? ⟨y.b, 0, none⟩ = some (.int .i64 y.id) := cell_blk (c := y.cells) (F.out.at (H.out.node y HB.out.1) (fun x => x)) 0
        clear hall hall2 HW HB
        simp only [lv, Option.map_some]
        go_wp2_with (refine wpList_next_run (by rfl) _ (by rfl) (by rfl) hr ?_; clear hr)
        go_ret2
        exact ⟨_, _, rfl, Z.out, F.out⟩
    · obtain ⟨r, hro, how⟩ := H.out.row _ _ hp
      obtain ⟨ra, rc, rfl⟩ := ownsRow_form how
      have hst := Lib.hid (HW.out.step (Nat.le_refl _) hp hpd hk1 hk2)
      have hrl : r.length ≤ 1000000 := Nat.le_trans (by rw [row_len hro H.out.ndb]; exact List.length_filter_le _ _) hL
      have fn : Fr (fun _ => False) w wn := HW.out.fr.trans hk2 (fun b hb he => by omega)
      have how' := ownsRow_keep how fn (fun _ _ x => x)
      have hnode : ∀ x ∈ L, wn.cell? ⟨x.b, 1, none⟩ = some (.int .u64 x.base) ∧ x.b < wn.heap.size := fun x hx => ⟨cell_blk (c := x.cells) (fn.at (H.out.node x hx) (fun x => x)) 1, lt_blk (fn.at (H.out.node x hx) (fun x => x))⟩
      have hnode := Lib.hid hnode
      clear hp hpd hk1 hk2 how fn
      simp only [kenc] at hr hk3
      cases pk4 with
      | true =>
        have HB2 := Lib.hid (HB.out.skip (k := (pk1, pk2, pk3, true)) (fun x _ hx hs => by rw [hx] at hs; simp at hs))
        clear hro how'
        go_wp2_with (first | (refine wpList_next_run (by rfl) _ (by rfl) (by rfl) hr ?_; clear hr) | (refine wpList_entry (by rfl) _ (by rfl) (by rfl) hk3 ?_; clear hk3))
        go_quiet (fail)
        go_wp2
        go_roundg (gk - 1)
        case measure => have := hst.out.2; omega
        case rel => exact ⟨_, rfl, Lib.hid ⟨_, o, rfl, HB2.out, (hst.out.1.fr' ((Fr.refl _ wn).alloc _)).fr' (Fr.of_drewN _ _ _)⟩⟩
      | false =>
        cases r with
        | nil =>
          have HB2 := Lib.hid (HB.out.skip (k := (pk1, pk2, pk3, false)) (fun x hx hk _ => absurd ((hro.mem x).2 ⟨hx, hk⟩) (by simp)))
          clear hro how'
          go_wp2_with (first | (refine wpList_next_run (by rfl) _ (by rfl) (by rfl) hr ?_; clear hr) | (refine wpList_entry (by rfl) _ (by rfl) (by rfl) hk3 ?_; clear hk3))
          go_quiet (fail)
          go_wp2
          go_roundg (gk - 1)
          case measure => have := hst.out.2; omega
          case rel => exact ⟨_, rfl, Lib.hid ⟨_, o, rfl, HB2.out, (hst.out.1.fr' ((Fr.refl _ wn).alloc _)).fr' (Fr.of_drewN _ _ _)⟩⟩
        | cons x r =>
          obtain ⟨hx1, hx2, hx3⟩ := row_head hro
          obtain ⟨g, rfl, e0⟩ := row_first how'
          obtain ⟨e1, hxb⟩ := hnode.out x hx1
          have hgb := World.block_lt_of_cell? _ _ e0
          simp only at hgb
          have hrl2 : 0 < (x :: r).length := by simp
          have hrl3 : decide ((0 : Int) < ((x :: r).length : Int)) = true := by simp only [decide_eq_true_eq]; omega
          generalize (x :: r).length = n at *
          have X3 := Lib.hid hx3
          have X2 := Lib.hid hx2
          have XS : x.kd.2.2.2 = false := by rw [hx2]
          have XS := Lib.hid XS
          clear hx3 hx2 hro how'
          cases o with
          | none =>
            have HB2 := Lib.hid (HB.out.take (k := (pk1, pk2, pk3, false)) hx1 XS.out (fun y hy hk => X3.out y hy hk) (fun y hy => by simp at hy))
            simp only [lv, Option.map_none]
            go_wp2_with (first | (refine wpList_next_run (by rfl) _ (by rfl) (by rfl) hr ?_; clear hr) | (refine wpList_entry (by rfl) _ (by rfl) (by rfl) hk3 ?_; clear hk3))
            go_quiet (fail)
            go_wp2
            go_roundg (gk - 1)
            case measure => have := hst.out.2; omega
            case rel => exact ⟨_, rfl, Lib.hid ⟨_, some x, rfl, HB2.out, (hst.out.1.fr' ((Fr.refl _ wn).alloc _)).fr' (Fr.of_drewN _ _ _)⟩⟩
          | some y =>
            obtain ⟨e2, hyb⟩ := hnode.out y HB.out.1
            simp only [lv, Option.map_some]
            by_cases hlt : x.base < y.base
            · have HB2 := Lib.hid (HB.out.take (k := (pk1, pk2, pk3, false)) hx1 XS.out (fun y hy hk => X3.out y hy hk) (fun z hz => by cases hz; exact hlt))
              go_wp2_with (first | (refine wpList_next_run (by rfl) _ (by rfl) (by rfl) hr ?_; clear hr) | (refine wpList_entry (by rfl) _ (by rfl) (by rfl) hk3 ?_; clear hk3))
              go_quiet (fail)
              go_wp2
              go_roundg (gk - 1)
              case measure => have := hst.out.2; omega
              case rel => exact ⟨_, rfl, Lib.hid ⟨_, some x, rfl, HB2.out, (hst.out.1.fr' ((Fr.refl _ wn).alloc _)).fr' (Fr.of_drewN _ _ _)⟩⟩
            · have HB2 := Lib.hid (HB.out.skip (k := (pk1, pk2, pk3, false)) (fun z hz hk _ => ⟨y, rfl, by have := X3.out z hz hk; omega⟩))
              go_wp2_with (first | (refine wpList_next_run (by rfl) _ (by rfl) (by rfl) hr ?_; clear hr) | (refine wpList_entry (by rfl) _ (by rfl) (by rfl) hk3 ?_; clear hk3))
              go_quiet (fail)
              go_wp2
              go_roundg (gk - 1)
              case measure => have := hst.out.2; omega
              case rel => exact ⟨_, rfl, Lib.hid ⟨_, some y, rfl, HB2.out, (hst.out.1.fr' ((Fr.refl _ wn).alloc _)).fr' (Fr.of_drewN _ _ _)⟩⟩
end Go.Proofs.Ytanaicjeheacoaa
