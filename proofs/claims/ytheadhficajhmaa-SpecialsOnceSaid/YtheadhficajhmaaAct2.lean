/-
  'act': records told and taken.
-/
import Derived.Test.YtheadhficajhmaaAct
namespace Go.Proofs.Ytheadhficajhmaa
open Go.RowKit
open Sp (cells3 cell3 lt isHd Ok)

/-- a call that answers a new row, leaves the box, and of which I holds -/
def DidRow (n : Nat) (xs : List Value) (N : Nat) (a to k d : Int) (W : World) (I : World → Prop) (e : Ending) (w' : World) : Prop :=
  ∃ va vc, e = .returned (.slice va n vc) ∧ Box N a to k d w' ∧ Hid (w'.ownsRow W.heap.size 49 3 (.slice va n vc) n xs ∧ I w')

theorem same_box {B B' n c c' N : Nat} {ad a' : Option Addr} {l : List Rec} {a to k d : Int} (w : World) (hn : n = l.length) (hb : l.length ≤ 1000000000)
    (h : w.ownsRow B 49 3 (.slice ad n c) n (cells3 l)) (h' : w.ownsRow B' 49 3 (.slice a' n c') n (cells3 l)) (hbox : Box N a to k d w) :
    Hid (Calls Try.prog 10 #[.slice ad n c, .slice a' n c'] w (Did (.bool true) N a to k d (fun w' => ∃ m, w' = w.drewN m))) :=
  Lib.hid ((Rf.same_true w hn hb h h').mono fun e w' ⟨he, m, hw⟩ => ⟨he, by subst hw; exact hbox, Lib.hid ⟨m, hw⟩⟩)

/-- the cells of a row, one behind the other, known to be there -/
structure There (va : Option Addr) (n N : Nat) (w : World) : Prop where
  there : 0 < n → ∃ g cur T, va = some ⟨g, 0, none⟩ ∧ N < g ∧ w.heap[g]? = some (.cells cur T (0, 0)) ∧ n * 3 ≤ cur.size

theorem There.of_row {w : World} {B T n c N : Nat} {va : Option Addr} {xs : List Value} (h : w.ownsRow B T 3 (.slice va n c) n xs) (hN : N < B) : There va n N w := by
  refine ⟨fun hn => ?_⟩
  rcases h.2 with ⟨_, h0⟩ | ⟨g, cap, cur, hv, hg, hh, hc, _, hs, _⟩
  · omega
  · simp only [Value.slice.injEq] at hv
    obtain ⟨rfl, _, rfl⟩ := hv
    exact ⟨g, cur, T, rfl, by omega, hh, by rw [hs]; exact Nat.mul_le_mul_right _ hc⟩

theorem There.fr {S : Nat → Prop} {w w' : World} {va : Option Addr} {n N : Nat} (h : There va n N w) (hf : Fr S w w') (hS : ∀ b, N < b → ¬ S b) : There va n N w' := by
  refine ⟨fun hn => ?_⟩
  obtain ⟨g, cur, T, h1, h2, h3, h4⟩ := h.there hn
  exact ⟨g, cur, T, h1, h2, hf.at h3 (hS g h2), h4⟩

theorem cells_some {w : World} {g : Nat} {cur : Array Value} {T i : Nat} (h : w.heap[g]? = some (.cells cur T (0, 0))) (hi : i < cur.size) : ∃ v, w.cell? ⟨g, i, none⟩ = some v := by
  rw [cell_blk h]; exact ⟨_, Array.getElem?_eq_getElem hi⟩

theorem Box.set {N g i : Nat} {a to k d : Int} {w : World} {v : Value} (h : Box N a to k d w) (hg : N < g) : Box N a to k d (w.setCell ⟨g, i, none⟩ v) :=
  h.fr ((Fr.refl (fun b => b = g) w).setCell _ _ (.inl rfl)) (by omega)

theorem There.set {w : World} {va : Option Addr} {n N g i : Nat} {v : Value} (h : There va n N w) : There va n N (w.setCell ⟨g, i, none⟩ v) := by
  refine ⟨fun hn => ?_⟩
  obtain ⟨g', cur, T, h1, h2, h3, h4⟩ := h.there hn
  by_cases hg : g' = g
  · subst hg
    exact ⟨g', _, T, h1, h2, heap_setCell_at h3, by simpa using h4⟩
  · exact ⟨g', cur, T, h1, h2, by rw [heap_setCell_ne (by exact hg)]; exact h3, h4⟩

set_option maxHeartbeats 2000000 in
theorem act_of {s r : Nat} {l : List Rec} (a to k d : Int) (w : World) (h : Pair w s r l) (hn : l.length ≤ 1000000) :
    Calls Try.prog 12 #[.pointer (some ⟨s, 0, none⟩), .pointer (some ⟨r, 0, none⟩), .agg #[.int .i64 3, .int .u64 a, .int .u64 to, .int .i64 k, .int .u64 d]] w (ActPost s r l w) := by
  have hsp := Sp.split l a 0
  have hx := Sp.split_lt l a 0
  have hy := Sp.split_head l a 0
  generalize l.takeWhile (lt a 0) = xs at hsp hx
  generalize l.dropWhile (lt a 0) = ys at hsp hy
  have hpl := Sp.place_of (s := s) hsp hx hy
  have hz := h.ok.of hsp hx hy
  have c1 : ∀ W, Fr (fun _ => False) w W → Box w.heap.size a to k d W → Hid (Calls Try.prog 16 #[.pointer (some ⟨s, 0, none⟩), .int .u64 a] W
      (DidRow (ys.takeWhile (fun r => r.a == a)).length (cells3 (ys.takeWhile (fun r => r.a == a))) w.heap.size a to k d W (fun w' => Fr (fun _ => False) W w'))) := fun W hf hb =>
    Lib.hid ((Sp.of_any a W (h.none hf).sp hsp hpl (by omega)).mono fun e w' ⟨va, vc, he, ho, hw⟩ => ⟨va, vc, he, hb.fr hw (fun x => x), Lib.hid ⟨ho, hw⟩⟩)
  have c2 : ∀ W, Fr (fun _ => False) w W → Box w.heap.size a to k d W → Hid (Calls Try.prog 22 #[.pointer (some ⟨r, 0, none⟩), .int .u64 a] W
      (DidRow (ys.takeWhile (fun r => r.a == a)).length (cells3 (ys.takeWhile (fun r => r.a == a))) w.heap.size a to k d W (fun w' => Fr (fun _ => False) W w'))) := fun W hf hb => by
    obtain ⟨a', c', h1, _⟩ := (h.none hf).rf
    have := Rf.of_any a W h1 (by omega)
    rw [hz] at this
    exact Lib.hid (this.mono fun e w' ⟨va, vc, he, ho, hw⟩ => ⟨va, vc, he, hb.fr hw (fun x => x), Lib.hid ⟨ho, hw⟩⟩)
  have hzn : (ys.takeWhile (fun r => r.a == a)).length ≤ 1000000 := by
    rw [← hz]; exact Nat.le_trans (List.length_filter_le _ _) hn
  generalize ys.takeWhile (fun r => r.a == a) = zs at c1 c2 hzn
  have fin := Lib.hid (fun W => h.post (w' := W))
  clear h hn hsp hx hy hpl hz
  have hb0 : Box w.heap.size a to k d (w.alloc (.cells #[.int .i64 3, .int .u64 a, .int .u64 to, .int .i64 k, .int .u64 d] 39)) := ⟨by simp, by simp, by simp, by simp⟩
  have c1' := c1 _ ((Fr.refl _ w).alloc _) hb0
  clear hb0
  go_enter Try.func12, Try.ntmps12
  go_wp2_with fail
  refine c1'.out.mono ?_
  rintro e w1 ⟨va, vc, rfl, hb1, hp1⟩
  obtain ⟨b1, b2, b3, b4⟩ := id hb1
  have hf1 : Fr (fun _ => False) w w1 := ((Fr.refl _ w).alloc _).trans hp1.out.2 (fun _ _ x => x)
  have ht1 := There.of_row (N := w.heap.size) hp1.out.1 (by simp)
  clear c1'
  go_wp2_with fail
  refine (c2 w1 hf1 hb1).out.mono ?_
  rintro e w2 ⟨va', vc', rfl, hb2, hp2⟩
  obtain ⟨d1, d2, d3, d4⟩ := id hb2
  have hf2 := hf1.trans hp2.out.2 (fun _ _ x => x)
  have ht2 := ht1.fr hp2.out.2 (fun _ _ x => x)
  have hs := same_box w2 rfl (by omega) (ownsRow_fr hp1.out.1 hp2.out.2 (fun _ => False.elim)) hp2.out.1 hb2
  clear hp1 hp2 b1 b2 b3 b4
  go_wp2_with fail
  refine hs.out.mono ?_
  rintro e w3 ⟨rfl, hb3, hp3⟩
  obtain ⟨m, hm⟩ := hp3.out
  have hf3 : Fr (fun _ => False) w w3 := by rw [hm]; exact hf2.drewN _
  have ht3 : There va zs.length w.heap.size w3 := by rw [hm]; exact ht2.fr ((Fr.refl (fun _ => False) w2).drewN m) (fun _ _ x => x)
  clear hp3 hm hs hf1 hf2 ht1 ht2 d1 d2 d3 d4 hb1 hb2
  go_wp2_with fail
  go_loopg [12] zs.length (fun k' i wr => ∃ j : Nat, i = .int .i64 j ∧ j + k' = zs.length ∧ Fr (fun _ => False) w wr ∧ Box w.heap.size a to k d wr ∧ There va zs.length w.heap.size wr)
  case atStart => exact ⟨0, rfl, by simp, hf3, hb3, ht3⟩
  case round =>
    obtain ⟨j, rfl, hj, hf, hb, ht⟩ := hrel
    clear hf3 hb3 ht3
    by_cases hlt : j < zs.length
    · obtain ⟨g, cur, T, rfl, hg, hh, hs⟩ := ht.there (by omega)
      obtain ⟨x0, k0⟩ := cells_some (i := j * 3) hh (by omega)
      obtain ⟨x1, k1⟩ := cells_some (i := j * 3 + 1) hh (by omega)
      obtain ⟨x2, k2⟩ := cells_some (i := j * 3 + 2) hh (by omega)
      have kf := free_blk hh
      have A := Lib.hid (And.intro hj (And.intro hf (And.intro hb ht)))
      clear hj hf hb ht hh hs
      go_wp2
      obtain ⟨hj, hf, hb, ht⟩ := A.out
      go_roundg (gk - 1)
      case measure => omega
      case rel =>
        exact ⟨j + 1, by go_num, by omega, ((hf.setCell _ _ (.inr (by simp; omega))).setCell _ _ (.inr (by simp; omega))).setCell _ _ (.inr (by simp; omega)), ((hb.set hg).set hg).set hg, ht.set.set.set⟩
    · clear hj ht
      have c1' := c1 wr.drew hf.drew hb
      obtain ⟨b1, b2, b3, b4⟩ := id hb
      go_wp2_with fail
      go_region_held3 (fun w' => w'.cell? ⟨w.heap.size, 1, none⟩ = some (.int .u64 a)) (go_keep) ((first | (go_at_call 16; refine c1'.out.mono ?_; rintro e w4 ⟨va4, vc4, rfl, hb4, hp4⟩; obtain ⟨b1, b2, b3, b4⟩ := id hb4) | (go_at_call 22; refine (c2 w4 (hf.drew.trans hp4.out.2 (fun _ _ x => x)) hb4).out.mono ?_; rintro e w5 ⟨va5, vc5, rfl, hb5, hp5⟩; obtain ⟨d1, d2, d3, d4⟩ := id hb5) | (go_at_call 10; refine (same_box w5 rfl (by omega) (ownsRow_fr hp4.out.1 hp5.out.2 (fun _ => False.elim)) hp5.out.1 hb5).out.mono ?_; rintro e w6 ⟨rfl, hb6, hp6⟩; obtain ⟨e1, e2, e3, e4⟩ := id hb6)))
      go_wp2
      go_ret
      refine fin.out _ ?_
      obtain ⟨m, hm⟩ := hp6.out
      rw [hm]
      exact (((hf.drew.trans hp4.out.2 (fun _ _ x => x)).trans hp5.out.2 (fun _ _ x => x))).drewN m
set_option maxHeartbeats 2000000 in
theorem act_between {s r : Nat} {l : List Rec} (a to k d : Int) (w : World) (h : Pair w s r l) (hn : l.length ≤ 1000000) :
    Calls Try.prog 12 #[.pointer (some ⟨s, 0, none⟩), .pointer (some ⟨r, 0, none⟩), .agg #[.int .i64 5, .int .u64 a, .int .u64 to, .int .i64 k, .int .u64 d]] w (ActPost s r l w) := by
  have hsp := Sp.split l a 0
  have hx := Sp.split_lt l a 0
  have hy := Sp.split_head l a 0
  generalize l.takeWhile (lt a 0) = xs at hsp hx
  generalize l.dropWhile (lt a 0) = ys at hsp hy
  have hpl := Sp.place_of (s := s) hsp hx hy
  have hz := h.ok.between (t := to) hsp hx hy
  have c1 : ∀ W, Fr (fun _ => False) w W → Box w.heap.size a to k d W → Hid (Calls Try.prog 9 #[.pointer (some ⟨s, 0, none⟩), .int .u64 a, .int .u64 to] W
      (DidRow (ys.takeWhile (fun r => decide (r.a < to))).length (cells3 (ys.takeWhile (fun r => decide (r.a < to)))) w.heap.size a to k d W (fun w' => Fr (fun _ => False) W w'))) := fun W hf hb =>
    Lib.hid ((Sp.between_any a to W (h.none hf).sp hsp hpl (by omega)).mono fun e w' ⟨va, vc, he, ho, hw⟩ => ⟨va, vc, he, hb.fr hw (fun x => x), Lib.hid ⟨ho, hw⟩⟩)
  have c2 : ∀ W, Fr (fun _ => False) w W → Box w.heap.size a to k d W → Hid (Calls Try.prog 14 #[.pointer (some ⟨r, 0, none⟩), .int .u64 a, .int .u64 to] W
      (DidRow (ys.takeWhile (fun r => decide (r.a < to))).length (cells3 (ys.takeWhile (fun r => decide (r.a < to)))) w.heap.size a to k d W (fun w' => Fr (fun _ => False) W w'))) := fun W hf hb => by
    obtain ⟨a', c', h1, _⟩ := (h.none hf).rf
    have := Rf.between_any a to W h1 (by omega)
    rw [hz] at this
    exact Lib.hid (this.mono fun e w' ⟨va, vc, he, ho, hw⟩ => ⟨va, vc, he, hb.fr hw (fun x => x), Lib.hid ⟨ho, hw⟩⟩)
  have hzn : (ys.takeWhile (fun r => decide (r.a < to))).length ≤ 1000000 := by
    rw [← hz]; exact Nat.le_trans (List.length_filter_le _ _) hn
  generalize ys.takeWhile (fun r => decide (r.a < to)) = zs at c1 c2 hzn
  have fin := Lib.hid (fun W => h.post (w' := W))
  clear h hn hsp hx hy hpl hz
  have hb0 : Box w.heap.size a to k d (w.alloc (.cells #[.int .i64 5, .int .u64 a, .int .u64 to, .int .i64 k, .int .u64 d] 39)) := ⟨by simp, by simp, by simp, by simp⟩
  have c1' := c1 _ ((Fr.refl _ w).alloc _) hb0
  clear hb0
  go_enter Try.func12, Try.ntmps12
  go_wp2_with fail
  refine c1'.out.mono ?_
  rintro e w1 ⟨va, vc, rfl, hb1, hp1⟩
  obtain ⟨b1, b2, b3, b4⟩ := id hb1
  have hf1 : Fr (fun _ => False) w w1 := ((Fr.refl _ w).alloc _).trans hp1.out.2 (fun _ _ x => x)
  have ht1 := There.of_row (N := w.heap.size) hp1.out.1 (by simp)
  clear c1'
  go_wp2_with fail
  refine (c2 w1 hf1 hb1).out.mono ?_
  rintro e w2 ⟨va', vc', rfl, hb2, hp2⟩
  obtain ⟨d1, d2, d3, d4⟩ := id hb2
  have hf2 := hf1.trans hp2.out.2 (fun _ _ x => x)
  have ht2 := ht1.fr hp2.out.2 (fun _ _ x => x)
  have hs := same_box w2 rfl (by omega) (ownsRow_fr hp1.out.1 hp2.out.2 (fun _ => False.elim)) hp2.out.1 hb2
  clear hp1 hp2 b1 b2 b3 b4
  go_wp2_with fail
  refine hs.out.mono ?_
  rintro e w3 ⟨rfl, hb3, hp3⟩
  obtain ⟨m, hm⟩ := hp3.out
  have hf3 : Fr (fun _ => False) w w3 := by rw [hm]; exact hf2.drewN _
  have ht3 : There va zs.length w.heap.size w3 := by rw [hm]; exact ht2.fr ((Fr.refl (fun _ => False) w2).drewN m) (fun _ _ x => x)
  clear hp3 hm hs hf1 hf2 ht1 ht2 d1 d2 d3 d4 hb1 hb2
  go_wp2_with fail
  go_loopg [14] zs.length (fun k' i wr => ∃ j : Nat, i = .int .i64 j ∧ j + k' = zs.length ∧ Fr (fun _ => False) w wr ∧ Box w.heap.size a to k d wr ∧ There va zs.length w.heap.size wr)
  case atStart => exact ⟨0, rfl, by simp, hf3, hb3, ht3⟩
  case round =>
    obtain ⟨j, rfl, hj, hf, hb, ht⟩ := hrel
    clear hf3 hb3 ht3
    by_cases hlt : j < zs.length
    · obtain ⟨g, cur, T, rfl, hg, hh, hs⟩ := ht.there (by omega)
      obtain ⟨x0, k0⟩ := cells_some (i := j * 3) hh (by omega)
      obtain ⟨x1, k1⟩ := cells_some (i := j * 3 + 1) hh (by omega)
      obtain ⟨x2, k2⟩ := cells_some (i := j * 3 + 2) hh (by omega)
      have kf := free_blk hh
      have A := Lib.hid (And.intro hj (And.intro hf (And.intro hb ht)))
      clear hj hf hb ht hh hs
      go_wp2
      obtain ⟨hj, hf, hb, ht⟩ := A.out
      go_roundg (gk - 1)
      case measure => omega
      case rel =>
        exact ⟨j + 1, by go_num, by omega, ((hf.setCell _ _ (.inr (by simp; omega))).setCell _ _ (.inr (by simp; omega))).setCell _ _ (.inr (by simp; omega)), ((hb.set hg).set hg).set hg, ht.set.set.set⟩
    · clear hj ht
      go_wp2
      go_ret
      exact fin.out _ hf

set_option maxHeartbeats 2000000 in
theorem act_take {s r : Nat} {l : List Rec} (a to k d : Int) (w : World) (h : Pair w s r l) (hn : l.length ≤ 1000000) :
    Calls Try.prog 12 #[.pointer (some ⟨s, 0, none⟩), .pointer (some ⟨r, 0, none⟩), .agg #[.int .i64 4, .int .u64 a, .int .u64 to, .int .i64 k, .int .u64 d]] w (ActPost s r l w) := by
  have hsp := Sp.split l a 0
  have hx := Sp.split_lt l a 0
  have hy := Sp.split_head l a 0
  generalize l.takeWhile (lt a 0) = xs at hsp hx
  generalize l.dropWhile (lt a 0) = ys at hsp hy
  have hpl := Sp.place_of (s := s) hsp hx hy
  have hz := h.ok.of hsp hx hy
  obtain ⟨zs, vs, hzv, hzs⟩ : ∃ zs vs, ys = zs ++ vs ∧ ys.takeWhile (fun r => r.a == a) = zs := ⟨_, _, List.takeWhile_append_dropWhile.symm, rfl⟩
  have hzm : ∀ z ∈ zs, z.a = a ∧ 1 ≤ z.k := by
    intro z hm
    refine ⟨?_, (h.ok.kind z (by rw [hsp, hzv]; simp [hm])).1⟩
    rw [← hzs, ← hz] at hm
    simpa using (List.mem_filter.1 hm).2
  rw [hzs] at hz
  subst hzv
  have hrl : r < w.heap.size := by obtain ⟨a, c, h1, _⟩ := h.rf; exact lt_blk h1.root
  have hzn : zs.length ≤ 1000000 := by rw [hsp] at hn; simp at hn; omega
  have hsub : ∀ x ∈ xs ++ vs, x ∈ l := by intro x hm; rw [hsp]; simp at hm ⊢; rcases hm with h | h <;> simp [h]
  have c1 : ∀ W, Fr (fun _ => False) w W → Box w.heap.size a to k d W → Hid (Calls Try.prog 15 #[.pointer (some ⟨s, 0, none⟩), .int .u64 a] W
      (DidRow zs.length (cells3 zs) w.heap.size a to k d W (fun w' => Sp.Is w' s (xs ++ vs) ∧ Fr (Sp.fp s l) w w' ∧ ∃ a' c', Rf.Is w' r a' c' l ∧ ∀ g, Value.ownBlock (.slice a' l.length c') = some g → ¬ Sp.fp s l g ∧ rowOf w r l g))) := fun W hf hb => by
    have hW := h.none hf
    refine Lib.hid ((Sp.take_any a W hW.sp hsp hpl (by omega) hzs).mono fun e w' ⟨va, vc, he, ho, hw, hi⟩ => ⟨va, vc, he, hb.fr hw (fun hfp => fp_lt' h.sp hfp), Lib.hid ⟨ho, hi, (show Fr (Sp.fp s l) w W from hf.mono (fun _ _ => False.elim)).trans hw (fun _ _ x => x), ?_⟩⟩)
    obtain ⟨a', c', h1, h2⟩ := h.rf
    refine ⟨a', c', (h1.fr hf (fun x => x) (fun _ _ x => x)).fr hw h.ne (fun b hb => h2 b hb.symm), fun g hg => ⟨h2 g hg, a', c', h1, hg⟩⟩
  have c2 : ∀ W, (Sp.Is W s (xs ++ vs) ∧ Fr (Sp.fp s l) w W ∧ ∃ a' c', Rf.Is W r a' c' l ∧ ∀ g, Value.ownBlock (.slice a' l.length c') = some g → ¬ Sp.fp s l g ∧ rowOf w r l g) → Box w.heap.size a to k d W →
      Hid (Calls Try.prog 23 #[.pointer (some ⟨r, 0, none⟩), .int .u64 a] W
      (DidRow zs.length (cells3 zs) w.heap.size a to k d W (fun w' => Fr (fun x => x = r) W w' ∧ Pair w' s r (xs ++ vs) ∧ Fr (fun b => Sp.fp s l b ∨ b = r) w w' ∧ (∀ g, rowOf w' r (xs ++ vs) g → rowOf w r l g ∨ w.heap.size ≤ g)))) := fun W ⟨hi, hfw, a', c', h1, h2⟩ hb => by
    refine Lib.hid ((Rf.take_any a W h1 hsp (by omega) hx hzm hz).mono fun e w' ⟨va, vc, he, ho, hw, a2, c2, hi2, hn2⟩ => ⟨va, vc, he, hb.fr hw (by omega), Lib.hid ⟨ho, hw, ⟨?_, ⟨a2, c2, hi2, ?_⟩, ?_, ?_⟩, ?_⟩⟩)
    · exact Sp.keep hi hw (fun b hb e => h.ne (e ▸ fp_sub hsub hb))
    · intro g hg hf
      have hf' := fp_sub hsub hf
      rcases hn2 g hg with h3 | h3
      · exact (h2 g h3).1 hf'
      · have := Sp.fp_lt hi _ hf; omega
    · exact fun hf => h.ne (fp_sub hsub hf)
    · exact h.ok.sub (by rw [hsp]; exact List.Sublist.append_left (List.sublist_append_right zs vs) xs)
    · refine ⟨(hfw.mono (fun _ _ h => .inl h)).trans hw (fun _ _ h => .inr h), ?_⟩
      rintro g ⟨a3, c3, h3, h4⟩
      obtain ⟨rfl, rfl⟩ := hi2.uniq h3
      rcases hn2 g h4 with h5 | h5
      · exact .inl (h2 g h5).2
      · exact .inr (Nat.le_trans hfw.size h5)
  have fin : Hid (∀ W m, Pair W s r (xs ++ vs) → Fr (fun b => Sp.fp s l b ∨ b = r) w W → (∀ g, rowOf W r (xs ++ vs) g → rowOf w r l g ∨ w.heap.size ≤ g) → ActPost s r l w (.returned (.bool true)) (W.drewN m)) :=
    Lib.hid (fun W m hp hf hg => ⟨rfl, xs ++ vs, hp.none (Fr.of_drewN _ W m), by rw [hsp]; simp; omega, fun b hb => .inl (fp_sub hsub hb), hf.drewN m, fun g hx => by
      obtain ⟨a, c, h1, _⟩ := hp.rf
      exact hg g (rowOf_none h1 (Fr.of_drewN (fun _ => False) W m) (fun x => x) hx)⟩)
  clear h hn hsp hx hy hpl hz hzm hsub hzs
  have hb0 : Box w.heap.size a to k d (w.alloc (.cells #[.int .i64 4, .int .u64 a, .int .u64 to, .int .i64 k, .int .u64 d] 39)).drew := ⟨by simp, by simp, by simp, by simp⟩
  have c1' := c1 _ ((Fr.refl _ w).alloc _).drew hb0
  clear hb0 c1
  go_enter Try.func12, Try.ntmps12
  go_wp2_with fail
  go_region_held3 (fun w' => w'.cell? ⟨w.heap.size, 1, none⟩ = some (.int .u64 a)) (go_keep) ((first | (go_at_call 15; refine c1'.out.mono ?_; rintro e w4 ⟨va4, vc4, rfl, hb4, hp4⟩; obtain ⟨b1, b2, b3, b4⟩ := id hb4) | (go_at_call 23; refine (c2 w4 hp4.out.2 hb4).out.mono ?_; rintro e w5 ⟨va5, vc5, rfl, hb5, hp5⟩; obtain ⟨d1, d2, d3, d4⟩ := id hb5) | (go_at_call 10; refine (same_box w5 rfl (by omega) (ownsRow_fr hp4.out.1 hp5.out.2.1 (fun b hb => by simp; omega)) hp5.out.1 hb5).out.mono ?_; rintro e w6 ⟨rfl, hb6, hp6⟩; obtain ⟨e1, e2, e3, e4⟩ := id hb6)))
  go_wp2
  go_ret
  obtain ⟨m, hm⟩ := hp6.out
  rw [hm]
  exact fin.out _ m hp5.out.2.2.1 hp5.out.2.2.2.1 hp5.out.2.2.2.2

/-- 'act', whatever is asked -/
theorem act_any {s r : Nat} {l : List Rec} (n a to k d : Int) (w : World) (h : Pair w s r l) (hn : l.length ≤ 1000000) :
    Calls Try.prog 12 #[.pointer (some ⟨s, 0, none⟩), .pointer (some ⟨r, 0, none⟩), .agg #[.int .i64 n, .int .u64 a, .int .u64 to, .int .i64 k, .int .u64 d]] w (ActPost s r l w) := by
  by_cases h1 : n = 1
  · subst h1; exact act_add a to k d w h hn
  by_cases h2 : n = 2
  · subst h2; exact act_remove a to k d w h hn
  by_cases h3 : n = 3
  · subst h3; exact act_of a to k d w h hn
  by_cases h4 : n = 4
  · subst h4; exact act_take a to k d w h hn
  by_cases h5 : n = 5
  · subst h5; exact act_between a to k d w h hn
  exact act_other n a to k d w h (by omega)
end Go.Proofs.Ytheadhficajhmaa
