/-
  The reference's sets (a slice of spans), and what its words do.
-/
import Derived.Test.YtanaicjeheacoaaMine
import Derived.BigQuiet
import Derived.Deep.QuietTactic
import Derived.Deep.RegionHeld3
namespace Go.Proofs.Ytanaicjeheacoaa
open Go.RowKit Go.Deep
namespace Rf

def cell6 (x : It) : List Value := [.int .i64 x.id, .int .u64 x.base, .int .i64 x.kd.1, .bool x.kd.2.1, .bool x.kd.2.2.1, .bool x.kd.2.2.2]
def cells6 (l : List It) : List Value := l.flatMap cell6

theorem cells6_append (xs ys : List It) : cells6 (xs ++ ys) = cells6 xs ++ cells6 ys := by simp [cells6]
theorem cells6_length (xs : List It) : (cells6 xs).length = xs.length * 6 := by
  induction xs with
  | nil => rfl
  | cons x xs ih => simp [cells6, cell6] at ih ⊢; omega
theorem cells6_take (xs ys : List It) : (cells6 (xs ++ ys)).take (xs.length * 6) = cells6 xs := by
  rw [cells6_append, ← cells6_length]; simp
theorem cells6_drop (xs ys : List It) : (cells6 (xs ++ ys)).drop (xs.length * 6) = cells6 ys := by
  rw [cells6_append, ← cells6_length]; simp
theorem cells6_one (xs : List It) : ∀ u ∈ cells6 xs, u.oneCell' = true := by
  intro u hu
  simp only [cells6, List.mem_flatMap, cell6] at hu
  obtain ⟨r, _, hu⟩ := hu
  simp at hu
  rcases hu with rfl | rfl | rfl | rfl | rfl | rfl <;> rfl
theorem get6 (l : List It) (i : Nat) (x : It) (h : l[i]? = some x) (j : Nat) (v : Value) (hj : (cell6 x)[j]? = some v) : (cells6 l)[i * 6 + j]? = some v := by
  have hj6 : j < 6 := by have := (List.getElem?_eq_some_iff.1 hj).1; simpa [cell6] using this
  induction l generalizing i with
  | nil => simp at h
  | cons y l ih =>
    have e : cells6 (y :: l) = cell6 y ++ cells6 l := by simp [cells6]
    have el : (cell6 y).length = 6 := rfl
    rw [e]
    cases i with
    | zero => simp at h; subst h; rw [List.getElem?_append_left (by omega)]; simpa using hj
    | succ i =>
      rw [List.getElem?_append_right (by omega), el, show (i + 1) * 6 + j - 6 = i * 6 + j by omega]
      exact ih i (by simpa using h)

/-- the reference in block r has the spans l -/
structure Is (w : World) (r : Nat) (a : Option Addr) (c : Nat) (l : List It) : Prop where
  root : w.heap[r]? = some (.cells #[.slice a l.length c] 37 (0, 0))
  row : w.ownsRow 0 63 6 (.slice a l.length c) l.length (cells6 l)
  ne : Value.ownBlock (.slice a l.length c) ≠ some r

/-- the cells of the i-th span of a row -/
theorem row_cells {w : World} {B T n c : Nat} {a : Option Addr} {l : List It} (h : w.ownsRow B T 6 (.slice a n c) n (cells6 l)) (hn : n = l.length) {i : Nat} {x : It} (hi : l[i]? = some x) :
    ∃ g, a = some ⟨g, 0, none⟩ ∧ B ≤ g ∧ w.cell? ⟨g, i * 6, none⟩ = some (.int .i64 x.id) ∧ w.cell? ⟨g, i * 6 + 1, none⟩ = some (.int .u64 x.base) ∧ w.cell? ⟨g, i * 6 + 2, none⟩ = some (.int .i64 x.kd.1) ∧
      w.cell? ⟨g, i * 6 + 3, none⟩ = some (.bool x.kd.2.1) ∧ w.cell? ⟨g, i * 6 + 4, none⟩ = some (.bool x.kd.2.2.1) ∧ w.cell? ⟨g, i * 6 + 5, none⟩ = some (.bool x.kd.2.2.2) ∧ w.frozen? ⟨g, i * 6 + 5, none⟩ = false := by
  have hlt : i < l.length := (List.getElem?_eq_some_iff.1 hi).1
  rcases id h.2 with ⟨_, hn⟩ | ⟨g, cap, cur, hv, hb, hblk, _⟩
  · omega
  · simp only [Value.slice.injEq] at hv
    obtain ⟨rfl, _, rfl⟩ := hv
    have k := fun j v hj => get6 l i x hi j v hj
    refine ⟨g, rfl, hb, ?_, ?_, ?_, ?_, ?_, ?_, free_blk hblk _⟩
    · rw [h.cellAt _ (by omega)]; exact k 0 _ rfl
    · rw [h.cellAt _ (by omega)]; exact k 1 _ rfl
    · rw [h.cellAt _ (by omega)]; exact k 2 _ rfl
    · rw [h.cellAt _ (by omega)]; exact k 3 _ rfl
    · rw [h.cellAt _ (by omega)]; exact k 4 _ rfl
    · rw [h.cellAt _ (by omega)]; exact k 5 _ rfl

theorem Is.fr {S : Nat → Prop} {w w' : World} {r : Nat} {a : Option Addr} {c : Nat} {l : List It} (h : Is w r a c l) (hf : Fr S w w') (h1 : ¬ S r) (h2 : ∀ b, some b = Value.ownBlock (.slice a l.length c) → ¬ S b) : Is w' r a c l :=
  ⟨hf.at h.root h1, ownsRow_keep h.row hf (fun g hg => h2 g hg.symm), h.ne⟩
theorem Is.quiet {w w' : World} {r : Nat} {a : Option Addr} {c : Nat} {l : List It} (h : Is w r a c l) (hf : Fr (fun _ => False) w w') : Is w' r a c l := h.fr hf (fun x => x) (fun _ _ x => x)
theorem Is.len {w : World} {r : Nat} {a : Option Addr} {c : Nat} {l : List It} (h : Is w r a c l) : l.length ≤ c := ownsRow_cap h.row

theorem Is.store {w : World} {r : Nat} {a a' : Option Addr} {c c' : Nat} {l l' : List It} (h : Is w r a c l) (ho : w.ownsRow 0 63 6 (.slice a' l'.length c') l'.length (cells6 l')) (hne : Value.ownBlock (.slice a' l'.length c') ≠ some r) :
    Is (w.setCell ⟨r, 0, none⟩ (.slice a' l'.length c')) r a' c' l' :=
  ⟨by rw [heap_setCell_at h.root]; rfl, ownsRow_setCell_other ho (by simpa using hne) _, hne⟩

/-- the reference, of which F names the blocks, all of them there -/
structure Mine (w : World) (r : Nat) (L : List It) (F : Nat → Prop) : Prop where
  is : ∃ a c, Is w r a c L ∧ ∀ g, Value.ownBlock (.slice a L.length c) = some g → F g
  r : F r
  lt : ∀ b, F b → b < w.heap.size

def Now (w : World) (r : Nat) (L' : List It) (F : Nat → Prop) (w' : World) : Prop := ∃ F', Mine w' r L' F' ∧ Step F F' w w'

theorem Mine.keep {w w' : World} {r : Nat} {L : List It} {F S : Nat → Prop} (h : Mine w r L F) (hf : Fr S w w') (hS : ∀ b, F b → ¬ S b) : Mine w' r L F := by
  obtain ⟨a, c, h1, h2⟩ := h.is
  exact ⟨⟨a, c, h1.fr hf (hS r h.r) (fun b hb => hS b (h2 b hb.symm)), h2⟩, h.r, fun b hb => Nat.lt_of_lt_of_le (h.lt b hb) hf.size⟩
theorem Mine.quiet {w w' : World} {r : Nat} {L : List It} {F : Nat → Prop} (h : Mine w r L F) (hf : Fr (fun _ => False) w w') : Mine w' r L F := h.keep hf (fun _ _ x => x)

theorem Mine.next {w w' : World} {r : Nat} {L L' : List It} {F : Nat → Prop} {a' : Option Addr} {c' : Nat} (h : Mine w r L F) (hi : Is w' r a' c' L') (hg : ∀ g, Value.ownBlock (.slice a' L'.length c') = some g → F g ∨ w.heap.size ≤ g) (hf : Fr F w w') : Now w r L' F w' := by
  refine ⟨fun b => b = r ∨ Value.ownBlock (.slice a' L'.length c') = some b, ⟨⟨a', c', hi, fun g hg => .inr hg⟩, .inl rfl, ?_⟩, hf, ?_⟩
  · rintro b (rfl | hb)
    · exact lt_blk hi.root
    · obtain ⟨cur, hc⟩ := ownsRow_blk hi.row hb
      exact lt_blk hc
  · rintro b (rfl | hb)
    · exact .inl h.r
    · exact hg b hb

theorem num_snoc (us : List It) (x : It) (b : Bool) : num (us ++ [x]) b = num us b + if x.kd.2.2.2 = b then 1 else 0 := by
  unfold num
  rw [List.filter_append, List.length_append]
  by_cases h : x.kd.2.2.2 = b <;> simp [h]

set_option maxHeartbeats 1000000 in
theorem count_any {r : Nat} {a : Option Addr} {c : Nat} {l : List It} (b : Bool) (w : World) (h : Is w r a c l) (hn : l.length ≤ 1000000) :
    Calls Try.prog 15 #[.pointer (some ⟨r, 0, none⟩), .bool b] w fun e w' => e = .returned (.int .i64 (num l b)) ∧ w = w' := by
  have hr0 := cell_blk h.root 0
  simp only [List.getElem?_toArray, List.getElem?_cons_zero] at hr0
  have H := Lib.hid h
  clear h
  go_enter Try.func15, Try.ntmps15
  go_wp2_with fail
  go_loopg [5, 6] l.length (fun k n i wr => w = wr ∧ ∃ us vs : List It, l = us ++ vs ∧ vs.length = k ∧ i = .int .i64 us.length ∧ n = .int .i64 (num us b))
  case atStart => exact ⟨rfl, [], l, rfl, rfl, rfl, rfl⟩
  case round =>
    obtain ⟨rfl, us, vs, hy, hk, rfl, rfl⟩ := hrel
    cases vs with
    | nil =>
      have hlen : decide (us.length < l.length) = false := by simp [hy]
      have e : us = l := by simpa using hy.symm
      have E := Lib.hid e
      clear hy hk e
      go_wp2
      go_ret
      exact ⟨by rw [E.out]; rfl, rfl⟩
    | cons x vs =>
      obtain ⟨g, rfl, _, c0, c1, c2, c3, c4, c5, _⟩ := row_cells H.out.row rfl (i := us.length) (x := x) (by rw [hy]; simp)
      have hlt : us.length < l.length := by rw [hy]; simp
      have hle : num us b ≤ us.length := List.length_filter_le _ _
      have A := Lib.hid (And.intro hy hk)
      have S := Lib.hid (num_snoc us x b)
      clear hy hk c0 c1 c2 c3 c4
      by_cases hb : x.kd.2.2.2 = b
      · have hb2 := Lib.hid hb
        have hbb : (x.kd.2.2.2 == b) = true := by simpa using hb
        clear hb
        go_wp2
        go_roundg vs.length
        case measure => have := A.out.2; simp at this; omega
        case rel => exact ⟨rfl, us ++ [x], vs, by simp [A.out.1], rfl, by simp, by rw [S.out, if_pos hb2.out]; go_num⟩
      · have hb2 := Lib.hid hb
        have hbb : (x.kd.2.2.2 == b) = false := by simpa using hb
        clear hb
        go_wp2
        go_roundg vs.length
        case measure => have := A.out.2; simp at this; omega
        case rel => exact ⟨rfl, us ++ [x], vs, by simp [A.out.1], rfl, by simp, by rw [S.out, if_neg hb2.out]; go_num⟩
end Rf
end Go.Proofs.Ytanaicjeheacoaa
