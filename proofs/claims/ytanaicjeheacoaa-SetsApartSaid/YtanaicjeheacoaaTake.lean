/-
  The least of a set is taken.
-/
import Derived.Test.YtanaicjeheacoaaRemove
namespace Go.Proofs.Ytanaicjeheacoaa
open Go.RowKit Go.Deep

/-- what Take answers, and what is left -/
def Took (L : List It) (k : Kd) (id : Int) (ok : Bool) (L' : List It) : Prop :=
  (ok = false ∧ id = 0 ∧ L' = L ∧ ∀ x ∈ L, x.kd ≠ k) ∨ (ok = true ∧ ∃ x ∈ L, x.kd = k ∧ x.id = id ∧ (∀ y ∈ L, y.kd = k → x.base ≤ y.base) ∧ L' = L.filter (fun y => decide (y.id ≠ x.id)))

set_option maxHeartbeats 4000000 in
theorem take_any {s : Nat} {L : List It} {F : Nat → Prop} (w : World) (h0 : Is w s L F) (k1 : Int) (k2 k3 k4 : Bool) (hL : L.length ≤ 1000000) :
    Calls Try.prog 9 #[.pointer (some ⟨s, 0, none⟩), .int .i64 k1, .bool k2, .bool k3, .bool k4] w fun e w' =>
      ∃ id ok L', e = .returned (.tuple #[.int .i64 id, .bool ok]) ∧ Took L (k1, k2, k3, k4) id ok L' ∧ Is w' s L' (fun b => F b ∨ w.heap.size ≤ b) ∧ Fr F w w' := by
  obtain ⟨m1, m2, m3, i1, i2, i3, h, hF⟩ := id h0
  obtain ⟨r, a, c, hv, hr, ho⟩ := h.core.look (k1, k2, k3, k4)
  have c3 := (blk3 h.core.root).2.2
  have look := run_row h.core.sets hv
  unfold kenc at look
  simp only at look
  have H0 := Lib.hid h0
  have HC := Lib.hid h.core
  have HF := Lib.hid hF
  have hrl : r.length ≤ 1000000 := Nat.le_trans (by rw [row_len hr h.core.ndb]; exact List.length_filter_le _ _) hL
  clear h0 h hv hF
  cases r with
  | nil =>
    have T := Lib.hid (show Took L (k1, k2, k3, k4) 0 false L from .inl ⟨rfl, rfl, rfl, fun x hx he => by have := (hr.mem x).2 ⟨hx, he⟩; simp at this⟩)
    clear hr ho
    go_enter Try.func9, Try.ntmps9
    go_wp2
    go_ret2
    obtain ⟨m1, m2, m3, i1, i2, i3, h, hF⟩ := H0.out
    exact ⟨_, _, _, rfl, T.out, ⟨m1, m2, m3, i1, i2, i3, h, fun b hb => .inl (hF b hb)⟩, Fr.refl _ _⟩
  | cons x r =>
    obtain ⟨hx1, hx2, hx3⟩ := row_head hr
    obtain ⟨g, rfl, e0⟩ := row_first ho
    have e1 : w.cell? ⟨x.b, 0, none⟩ = some (.int .i64 x.id) := cell_blk (c := x.cells) (HC.out.node x hx1) 0
    have T := Lib.hid (show Took L (k1, k2, k3, k4) x.id true (L.filter (fun y => decide (y.id ≠ x.id))) from .inr ⟨rfl, x, hx1, hx2, rfl, hx3, rfl⟩)
    have hrem := Lib.hid (remove_ok w H0.out x hx1 hL)
    have hrl2 : 0 < (x :: r).length := by simp
    have hrl3 : ((x :: r).length == 0) = false := by simp
    generalize (x :: r).length = n at *
    clear hr ho hx1 hx2 hx3
    go_enter Try.func9, Try.ntmps9
    go_wp2_with (go_at_call 11; refine hrem.out.mono ?_; rintro e w1 ⟨rfl, q1⟩; have Q1 := Lib.hid q1; clear q1)
    go_ret2
    exact ⟨_, _, _, rfl, T.out, Q1.out.1, Q1.out.2⟩
end Go.Proofs.Ytanaicjeheacoaa
