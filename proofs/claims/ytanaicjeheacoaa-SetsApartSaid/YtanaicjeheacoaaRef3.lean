/-
  The reference's cut, Remove and Flip.
-/
import Derived.Test.YtanaicjeheacoaaRef2
namespace Go.Proofs.Ytanaicjeheacoaa
open Go.RowKit Go.Deep
namespace Rf

set_option maxHeartbeats 1000000 in
theorem cut_any {r : Nat} {xs ys : List It} {q : It} {F : Nat → Prop} (w : World) (h0 : Mine w r (xs ++ q :: ys) F) (hn : (xs ++ q :: ys).length ≤ 1000000) :
    Calls Try.prog 25 #[.pointer (some ⟨r, 0, none⟩), .int .i64 xs.length] w fun e w' => e = .returned (.tuple #[]) ∧ Hid (Now w r (xs ++ ys) F w') := by
  obtain ⟨a, c, h, hg⟩ := id h0.is
  obtain ⟨i0, hi, hz0, hz1, hz2⟩ := info_parts info_one
  obtain ⟨l, hl⟩ : ∃ l, l = xs ++ q :: ys := ⟨_, rfl⟩
  rw [← hl] at h hn
  have hxl : xs.length < l.length := by rw [hl]; simp
  have hlc := h.len
  have hr0 := cell_blk h.root 0
  simp only [List.getElem?_toArray, List.getElem?_cons_zero] at hr0
  have hrl := lt_blk h.root
  have hr1 : ∀ o, (w.alloc o).cell? ⟨r, 0, none⟩ = some (.slice a l.length c) := fun o => (World.cell?_alloc_lt _ _ _ hrl).trans hr0
  have hown : (w.alloc (.cells #[] 63)).ownsRow w.heap.size 63 6 (.slice (some ⟨w.heap.size, 0, none⟩) 0 0) 0 [] :=
    ownsRow_empty 6 (by rw [heap_alloc, if_pos rfl]) (Nat.le_refl _)
  have hrd : Rd (w.alloc (.cells #[] 63)) 6 (.slice a xs.length c) xs.length (cells6 xs) := by
    have := ((ownsRow_rd (h.quiet ((Fr.refl (fun _ => False) w).alloc (.cells #[] 63))).row)).to (Nat.le_of_lt hxl)
    rw [hl] at this
    rw [cells6_take] at this
    exact this
  have hfr1 : Fr (fun _ => False) w (w.alloc (.cells #[] 63)) := (Fr.refl _ w).alloc _
  have H := Lib.hid (And.intro h hl)
  have H0 := Lib.hid h0
  clear h hl h0 hg
  go_enter Try.func25, Try.ntmps25
  go_wp2_with (first | (with_reducible refine wpList_slice_to rfl _ _ 35 rfl 63 i0 Try.underlying35 hi a l.length c rfl .i64 xs.length rfl ?b1 ?_) | (at_builtin; refine wpList_append_rd rfl _ _ 35 rfl 63 i0 _ 6 32 Try.underlying35 hi hz0 hz1 hz2 rfl (by decide) _ _ _ rfl hown hfr1 _ xs.length (cells6 xs) rfl hrd (cells6_one xs) ?c3 ?c4 ?_))
  case b1 => omega
  case c3 => simp only [maxLen]; omega
  case c4 => omega
  intro v2 w2 hown2 hfr2 _
  try simp only [Nat.zero_add, List.nil_append] at hown2
  clear hown hrd hr0 hr1
  obtain ⟨h, hl⟩ := H.out
  have h3 := h.fr hfr2 (fun x => x) (fun _ _ x => x)
  have hr0 := cell_blk h3.root 0
  simp only [List.getElem?_toArray, List.getElem?_cons_zero] at hr0
  have hrd := ownsRow_rd h3.row
  have hys := Lib.hid (show (cells6 l).drop ((xs.length + 1) * 6) = cells6 ys by
    have := cells6_drop (xs ++ [q]) ys
    rw [hl]; simpa using this)
  clear h hl h3
  go_wp2_with (first | (with_reducible refine wpList_slice_from rfl _ _ 35 rfl 63 i0 6 Try.underlying35 hi hz1 a l.length c rfl _ hrd .i64 (xs.length + 1) rfl ?b1 ?_))
  case b1 => omega
  intro v3 hrd3
  rw [hys.out] at hrd3
  go_wp2_with (first | (at_builtin; refine wpList_append_rd rfl _ _ 35 rfl 63 i0 _ 6 32 Try.underlying35 hi hz0 hz1 hz2 rfl (by decide) _ _ _ rfl hown2 hfr2 _ _ (cells6 ys) rfl hrd3 (cells6_one _) ?c3 ?c4 ?_))
  case c3 => simp only [maxLen]; omega
  case c4 => omega
  intro v4 w4 hown4 hfr4 _
  clear hown2 hfr2 hrd hrd3 hr0 hys
  obtain ⟨h, hl⟩ := H.out
  have h4 := h.fr hfr4 (fun x => x) (fun _ _ x => x)
  have hr0 := cell_blk h4.root 0
  have hrf := free_blk h4.root 0
  simp only [List.getElem?_toArray, List.getElem?_cons_zero] at hr0
  have hlen : xs.length + (l.length - (xs.length + 1)) = (xs ++ ys).length := by rw [hl]; simp; omega
  rw [hlen, ← cells6_append] at hown4
  obtain ⟨a4, c4, rfl⟩ := ownsRow_form hown4
  have hfar := hown4.lt
  have hstore := h4.store (ownsRow_mono hown4 (Nat.zero_le _)) (fun e => by have := hfar r e; omega)
  have A := Lib.hid (And.intro hstore (And.intro hfr4 hfar))
  clear hfar
  clear h hl h4 hown4 hfr4 hstore hlen
  go_wp2
  go_end0
  have A1 := A.out.1
  have A3 := A.out.2.2
  simp only [List.length_append] at A1 A3
  exact ⟨rfl, Lib.hid (H0.out.next A1 (fun g hg => .inr (A3 g (by simpa using hg)).1) ((A.out.2.1.mono (fun _ _ => False.elim)).setCell _ _ (.inl H0.out.r)))⟩

theorem cut_filter {xs ys : List It} {q : It} (h : ((xs ++ q :: ys).map (·.id)).Nodup) : xs ++ ys = (xs ++ q :: ys).filter (fun y => decide (y.id ≠ q.id)) := by
  rw [List.map_append, List.map_cons, List.nodup_append] at h
  obtain ⟨_, h2, h3⟩ := h
  have h4 := List.nodup_cons.1 h2
  rw [List.filter_append, List.filter_cons_of_neg (by simp), List.filter_eq_self.2, List.filter_eq_self.2]
  · intro y hy
    simp only [decide_eq_true_eq]
    intro e
    exact h4.1 (by rw [← e]; exact List.mem_map_of_mem hy)
  · intro y hy
    simp only [decide_eq_true_eq]
    intro e
    exact h3 y.id (List.mem_map_of_mem hy) q.id (by simp) e

set_option maxHeartbeats 1000000 in
theorem remove_any {r : Nat} {L : List It} {F : Nat → Prop} (id : Int) (w : World) (h0 : Mine w r L F) (hn : L.length ≤ 1000000) (hI : (L.map (·.id)).Nodup) :
    Calls Try.prog 20 #[.pointer (some ⟨r, 0, none⟩), .int .i64 id] w fun e w' => ∃ c L', e = .returned (.int .i64 c) ∧ Hid (Now w r L' F w' ∧ Removes L id c L') := by
  obtain ⟨a, c, h, hg⟩ := h0.is
  have hr0 := cell_blk h.root 0
  simp only [List.getElem?_toArray, List.getElem?_cons_zero] at hr0
  have H := Lib.hid h
  have H0 := Lib.hid h0
  have HI := Lib.hid hI
  clear h hg h0 hI
  go_enter Try.func20, Try.ntmps20
  go_wp2_with fail
  go_loopg [5] L.length (fun k i wr => w = wr ∧ ∃ us vs : List It, i = .int .i64 us.length ∧ Hid (L = us ++ vs ∧ vs.length = k ∧ ∀ x ∈ us, x.id ≠ id))
  case atStart => exact ⟨rfl, [], L, rfl, Lib.hid ⟨rfl, rfl, by simp⟩⟩
  case round =>
    obtain ⟨rfl, us, vs, rfl, HR⟩ := hrel
    cases vs with
    | cons x vs =>
      obtain ⟨g, rfl, _, c0, c1, c2, c3, c4, c5, _⟩ := row_cells H.out.row rfl (i := us.length) (x := x) (by rw [HR.out.1]; simp)
      have hlt : us.length < L.length := by rw [HR.out.1]; simp
      clear c1 c2 c3 c4 c5
      by_cases e1 : x.id = id
      · have e1b : (x.id == id) = true := by simpa using e1
        have E := Lib.hid e1
        have hm := H0.out
        rw [HR.out.1] at hm
        have C := Lib.hid (cut_any w hm (by rw [← HR.out.1]; exact hn))
        clear e1 hm
        go_wp2_with (go_at_call 25; refine C.out.mono ?_; rintro e w1 ⟨rfl, N1⟩)
        go_ret
        have hi := HI.out
        rw [HR.out.1] at hi
        refine ⟨0, us ++ vs, rfl, Lib.hid ⟨N1.out, .inr ⟨rfl, ⟨x, by rw [HR.out.1]; simp, E.out⟩, ?_⟩⟩⟩
        rw [cut_filter hi, ← HR.out.1, E.out]
      · have e1b : (x.id == id) = false := by simpa using e1
        have E := Lib.hid e1
        clear e1
        go_wp2
        go_roundg vs.length
        case measure => have := HR.out.2.1; simp at this; omega
        case rel =>
          refine ⟨rfl, us ++ [x], vs, by simp, Lib.hid ⟨by rw [HR.out.1]; simp, rfl, fun y hy => ?_⟩⟩
          rcases List.mem_append.1 hy with hy | hy
          · exact HR.out.2.2 y hy
          · simp only [List.mem_singleton] at hy; subst hy; exact E.out
    | nil =>
      have hlen : decide (us.length < L.length) = false := by rw [HR.out.1]; simp
      go_wp2
      go_ret
      exact ⟨35, L, rfl, Lib.hid ⟨⟨F, H0.out, Step.none (Fr.refl _ _)⟩, .inl ⟨rfl, rfl, fun x hx => HR.out.2.2 x (by rw [HR.out.1] at hx; simpa using hx)⟩⟩⟩
theorem cells6_set (us vs : List It) (x : It) : (cells6 (us ++ x :: vs)).set (us.length * 6 + 5) (.bool false) = cells6 (us ++ x.turned :: vs) := by
  rw [cells6_append, cells6_append, ← cells6_length, List.set_append_right _ _ (by omega)]
  simp [cells6, cell6, It.turned]

theorem ownsRow_set6 {w : World} {T g n c j : Nat} {xs : List Value} (h : w.ownsRow 0 T 6 (.slice (some ⟨g, 0, none⟩) n c) n xs) (hj : j < n * 6) (v : Value) (hv : v.oneCell' = true) :
    (w.setCell ⟨g, j, none⟩ v).ownsRow 0 T 6 (.slice (some ⟨g, 0, none⟩) n c) n (xs.set j v) := by
  rcases h with ⟨hl, h | ⟨g', cap, cur, hv', hg, hb, hn, hcm, hcs, ht⟩⟩
  · simp at h
  · simp only [Value.slice.injEq, Option.some.injEq, Addr.mk.injEq] at hv'
    obtain ⟨⟨rfl, _⟩, _, rfl⟩ := hv'
    refine ⟨by simpa using hl, .inr ⟨g, c, cur.setIfInBounds j v, rfl, hg, heap_setCell_at hb, hn, hcm, by simpa using hcs, ?_⟩⟩
    rw [← ht]
    simp only [Array.toList_setIfInBounds]
    rw [List.take_set]

set_option maxHeartbeats 2000000 in
theorem flip_any {r : Nat} {L : List It} {F : Nat → Prop} (w : World) (h0 : Mine w r L F) (hn : L.length ≤ 1000000) :
    Calls Try.prog 22 #[.pointer (some ⟨r, 0, none⟩)] w fun e w' => ∃ c L', e = .returned (.int .i64 c) ∧ Hid (Now w r L' F w' ∧ Flips L c L') := by
  obtain ⟨a, c, h, hg⟩ := id h0.is
  have C := Lib.hid (count_any false w h hn)
  have hle : num L false ≤ L.length := List.length_filter_le _ _
  have HA := Lib.hid (And.intro h hg)
  have H0 := Lib.hid h0
  have hrl := lt_blk h.root
  obtain ⟨n, hnum⟩ : ∃ n, num L false = n := ⟨_, rfl⟩
  have HM := Lib.hid hnum
  rw [hnum] at C hle
  clear h hg h0 hnum
  by_cases hz : n = 0
  · subst hz
    go_enter Try.func22, Try.ntmps22
    go_wp2_with (go_at_call 15; refine C.out.mono ?_; rintro e w1 ⟨rfl, rfl⟩)
    go_loopg [3] L.length (fun k i wr => ∃ us vs : List It, i = .int .i64 us.length ∧ Hid (L = us ++ vs ∧ vs.length = k ∧ Is wr r a c (us.map It.turned ++ vs) ∧ Fr (fun b => Value.ownBlock (.slice a L.length c) = some b) w wr))
    case atStart => exact ⟨[], L, rfl, Lib.hid ⟨rfl, rfl, HA.out.1, Fr.refl _ w⟩⟩
    case round =>
      obtain ⟨us, vs, rfl, HR⟩ := hrel
      have hlL : (us.map It.turned ++ vs).length = L.length := by rw [HR.out.1]; simp
      have hr0 := cell_blk HR.out.2.2.1.root 0
      simp only [List.getElem?_toArray, List.getElem?_cons_zero] at hr0
      rw [hlL] at hr0
      cases vs with
      | cons x vs =>
        obtain ⟨g, rfl, _, c0, c1, c2, c3, c4, c5, f5⟩ := row_cells HR.out.2.2.1.row rfl (i := us.length) (x := x) (by simp)
        have hlt : us.length < L.length := by rw [HR.out.1]; simp
        have HL := Lib.hid hlL
        clear c0 c1 c2 c3 c4 hlL
        go_wp2
        go_roundg vs.length
        case measure => have := HR.out.2.1; simp at this; omega
        case rel =>
          have hI := HR.out.2.2.1
          refine ⟨us ++ [x], vs, by simp, Lib.hid ⟨by rw [HR.out.1]; simp, rfl, ?_, HR.out.2.2.2.setCell _ _ (.inl rfl)⟩⟩
          have hgr : r ≠ g := fun e => hI.ne (by rw [← e]; rfl)
          have e2 : (us ++ [x]).map It.turned ++ vs = us.map It.turned ++ x.turned :: vs := by simp
          have o := ownsRow_set6 hI.row (j := us.length * 6 + 5) (by simp; omega) (.bool false) rfl
          have e3 := cells6_set (us.map It.turned) vs x
          rw [List.length_map] at e3
          rw [e3] at o
          rw [e2]
          have e4 : (us.map It.turned ++ x.turned :: vs).length = (us.map It.turned ++ x :: vs).length := by simp
          refine ⟨?_, by rw [e4]; exact o, by rw [e4]; exact hI.ne⟩
          rw [heap_setCell_ne hgr, e4]
          exact hI.root
      | nil =>
        have hlen : decide (us.length < L.length) = false := by rw [HR.out.1]; simp
        clear hlL
        go_wp2
        go_ret
        have hI := HR.out.2.2.1
        have e : us = L := by have := HR.out.1; simpa using this.symm
        rw [List.append_nil, e] at hI
        refine ⟨0, _, rfl, Lib.hid ⟨H0.out.next hI (fun g hg => .inl (HA.out.2 g (by simpa using hg))) (HR.out.2.2.2.mono (fun b _ hb => HA.out.2 b hb)), .inr ⟨HM.out, rfl, rfl⟩⟩⟩
  · have hpos : 0 < n := by omega
    clear hz
    go_enter Try.func22, Try.ntmps22
    go_wp2_with (go_at_call 15; refine C.out.mono ?_; rintro e w1 ⟨rfl, rfl⟩)
    go_ret
    exact ⟨33, L, rfl, Lib.hid ⟨⟨F, H0.out, Step.none (Fr.refl _ _)⟩, .inl ⟨by rw [HM.out]; exact hpos, rfl, rfl⟩⟩⟩
end Rf
end Go.Proofs.Ytanaicjeheacoaa
