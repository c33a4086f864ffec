/-
  The reference's records (a slice), and what its functions do.
-/
import Derived.Test.YtheadhficajhmaaSpec4
import Derived.BigQuiet
import Derived.Deep.QuietTactic
namespace Go.Proofs.Ytheadhficajhmaa
open Go.RowKit
namespace Rf
open Sp (cells3 cell3 lt isHd takeWhile_split)

/-- the reference in block r has the records l -/
structure Is (w : World) (r : Nat) (a : Option Addr) (c : Nat) (l : List Rec) : Prop where
  root : w.heap[r]? = some (.cells #[.slice a l.length c] 36 (0, 0))
  row : w.ownsRow 0 49 3 (.slice a l.length c) l.length (cells3 l)
  ne : Value.ownBlock (.slice a l.length c) ≠ some r

theorem get3 (l : List Rec) (i : Nat) (r : Rec) (h : l[i]? = some r) : (cells3 l)[i * 3]? = some (.int .u64 r.a) ∧ (cells3 l)[i * 3 + 1]? = some (.int .i64 r.k) ∧ (cells3 l)[i * 3 + 2]? = some (.int .u64 r.d) := by
  induction l generalizing i with
  | nil => simp at h
  | cons x l ih =>
    cases i with
    | zero => simp at h; subst h; simp [cells3, cell3]
    | succ i =>
      have := ih i (by simpa using h)
      simp only [cells3, List.flatMap_cons, cell3] at this ⊢
      rw [show (i + 1) * 3 = i * 3 + 3 by omega, show i * 3 + 3 + 1 = (i * 3 + 1) + 3 by omega, show i * 3 + 3 + 2 = (i * 3 + 2) + 3 by omega]
      simpa using this

/-- the cells of the i-th record of a row -/
theorem row_cells {w : World} {B T n c : Nat} {a : Option Addr} {l : List Rec} (h : w.ownsRow B T 3 (.slice a n c) n (cells3 l)) (hn : n = l.length) {i : Nat} {x : Rec} (hi : l[i]? = some x) :
    ∃ g, a = some ⟨g, 0, none⟩ ∧ B ≤ g ∧ w.cell? ⟨g, i * 3, none⟩ = some (.int .u64 x.a) ∧ w.cell? ⟨g, i * 3 + 1, none⟩ = some (.int .i64 x.k) ∧ w.cell? ⟨g, i * 3 + 2, none⟩ = some (.int .u64 x.d) := by
  have hlt : i < l.length := (List.getElem?_eq_some_iff.1 hi).1
  obtain ⟨h0, h1, h2⟩ := get3 l i x hi
  rcases h.2 with ⟨_, hn⟩ | ⟨g, cap, cur, hv, hb, _⟩
  · omega
  · simp only [Value.slice.injEq] at hv
    obtain ⟨rfl, _, rfl⟩ := hv
    refine ⟨g, rfl, hb, ?_, ?_, ?_⟩
    · rw [h.cellAt _ (by omega)]; exact h0
    · rw [h.cellAt _ (by omega)]; exact h1
    · rw [h.cellAt _ (by omega)]; exact h2

/-- the cells of the i-th record -/
theorem Is.cells {w : World} {r : Nat} {a : Option Addr} {c : Nat} {l : List Rec} (h : Is w r a c l) {i : Nat} {x : Rec} (hi : l[i]? = some x) :
    ∃ g, a = some ⟨g, 0, none⟩ ∧ w.cell? ⟨g, i * 3, none⟩ = some (.int .u64 x.a) ∧ w.cell? ⟨g, i * 3 + 1, none⟩ = some (.int .i64 x.k) ∧ w.cell? ⟨g, i * 3 + 2, none⟩ = some (.int .u64 x.d) := by
  obtain ⟨g, h1, _, h2⟩ := row_cells h.row rfl hi
  exact ⟨g, h1, h2⟩

theorem takeWhile_of {α : Type} {p : α → Bool} {l : List α} {j : Nat} (hj : j ≤ l.length) (h : ∀ i x, i < j → l[i]? = some x → p x = true) (hy : ∀ x, l[j]? = some x → p x = false) : (l.takeWhile p).length = j := by
  have e : l.take j ++ l.drop j = l := List.take_append_drop j l
  rw [← e, takeWhile_split]
  · simp; omega
  · intro x hx
    obtain ⟨i, hi, hxi⟩ := List.getElem_of_mem hx
    have hi' : i < j := by have := List.length_take_le j l; omega
    exact h i x hi' (by simp at hxi; rw [← hxi]; simp)
  · intro y r hr
    apply hy
    have : l[j]? = (l.drop j)[0]? := by simp
    rw [this, hr]; rfl

def Found (p : Nat) (b : Bool) (w : World) (e : Ending) (w' : World) : Prop := e = .returned (.tuple #[.int .i64 p, .bool b]) ∧ ∃ n, w' = w.drewN n

set_option maxHeartbeats 1000000 in
theorem find_any {r : Nat} {a : Option Addr} {c : Nat} {l xs ys : List Rec} (ad k : Int) (w : World) (h : Is w r a c l) (hl : l = xs ++ ys) (hx : ∀ x ∈ xs, lt ad k x = true) (hy : ∀ y z, ys = y :: z → lt ad k y = false) (hn : l.length ≤ 1000000000) :
    Calls Try.prog 24 #[.pointer (some ⟨r, 0, none⟩), .int .u64 ad, .int .i64 k] w (Found xs.length (isHd ys ad k) w) := by
  have hr0 := cell_blk h.root 0
  simp at hr0
  have H := Lib.hid (And.intro h (And.intro hl (And.intro hx hy)))
  clear h hl hx hy
  go_enter Try.func24, Try.ntmps24
  go_wp2_with fail
  go_loopg [8] xs.length (fun k' i wr => w = wr ∧ ∃ us vs, xs = us ++ vs ∧ vs.length = k' ∧ i = .int .i64 us.length)
  case atStart => exact ⟨rfl, [], xs, rfl, rfl, rfl⟩
  case round =>
    obtain ⟨rfl, us, vs, hxs, hk, rfl⟩ := hrel
    obtain ⟨h, hl, hx, hy⟩ := H.out
    cases vs with
    | cons x vs =>
      have hi : l[us.length]? = some x := by rw [hl, hxs]; simp
      obtain ⟨g, rfl, c0, c1, c2⟩ := h.cells hi
      have hlt := hx x (by rw [hxs]; simp)
      have hlen : us.length < l.length := by rw [hl, hxs]; simp
      have A := Lib.hid (And.intro hxs hk)
      clear hi h hl hx hy hxs hk
      by_cases h1 : x.a < ad
      · clear hlt
        go_wp2
        go_roundg vs.length
        case measure => have := A.out.2; simp at this; omega
        case rel => exact ⟨rfl, us ++ [x], vs, by simp [A.out.1], rfl, by simp⟩
      · have h2 : x.a = ad ∧ x.k < k := by simpa [lt, h1] using hlt
        clear hlt
        obtain ⟨h2, h3⟩ := h2
        have h2' : (x.a == ad) = true := by simp [h2]
        clear h2
        go_wp2
        go_roundg vs.length
        case measure => have := A.out.2; simp at this; omega
        case rel => exact ⟨rfl, us ++ [x], vs, by simp [A.out.1], rfl, by simp⟩
    | nil =>
      have he : us = xs := by simpa using hxs.symm
      subst he
      cases ys with
      | nil =>
        have hlen : decide (us.length < l.length) = false := by simp [hl]
        clear h hl hx hy hxs hk
        go_wp2
        go_quiet (fail)
        go_wp2
        go_ret2
        exact ⟨rfl, _, rfl⟩
      | cons y ys =>
        have hi : l[us.length]? = some y := by rw [hl]; simp
        obtain ⟨g, rfl, c0, c1, c2⟩ := h.cells hi
        have hlt := hy y ys rfl
        have hlen : decide (us.length < l.length) = true := by simp [hl]
        have hlen' : us.length < l.length := by simpa using hlen
        clear hi h hl hx hy hxs hk
        simp only [lt, Bool.or_eq_false_iff, Bool.and_eq_false_iff, decide_eq_false_iff_not] at hlt
        obtain ⟨h1, h2⟩ := hlt
        by_cases h3 : (y.a == ad) = true
        · have h4 : ¬ y.k < k := by rcases h2 with h2 | h2; simp [h3] at h2; exact h2
          clear h2
          have e := Lib.hid (show isHd (y :: ys) ad k = (y.k == k) by simp [isHd, h3])
          go_wp2
          go_quiet (fail)
          go_wp2
          go_ret2
          exact ⟨by rw [e.out]; rfl, _, rfl⟩
        · have h3' : (y.a == ad) = false := by simpa using h3
          clear h3 h2
          have e := Lib.hid (show isHd (y :: ys) ad k = false by simp [isHd, h3'])
          go_wp2
          go_quiet (fail)
          go_wp2
          go_ret2
          exact ⟨by rw [e.out]; rfl, _, rfl⟩
end Rf
end Go.Proofs.Ytheadhficajhmaa
