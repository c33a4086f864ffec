/-
  The reference's Remove, Of, Between, Take.
-/
import Derived.Test.YtheadhficajhmaaRef2
namespace Go.Proofs.Ytheadhficajhmaa
open Go.RowKit
namespace Rf
open Sp (cells3 cell3 lt isHd takeWhile_split cells3_snoc)

set_option maxHeartbeats 1000000 in
theorem remove_none {r : Nat} {a : Option Addr} {c : Nat} {l xs ys : List Rec} (ad k : Int) (w : World) (h : Is w r a c l) (hl : l = xs ++ ys) (hx : ∀ x ∈ xs, lt ad k x = true) (hy : ∀ y z, ys = y :: z → lt ad k y = false) (hn : l.length ≤ 1000000000)
    (hh : isHd ys ad k = false) :
    Calls Try.prog 21 #[.pointer (some ⟨r, 0, none⟩), .int .u64 ad, .int .i64 k] w (PostNo (.tuple #[.int .u64 0, .int .i64 35]) w) := by
  have hf := find_fr ad k w h hl hx hy hn
  rw [hh] at hf
  replace hf := Lib.hid hf
  clear h hl hx hy hn hh
  go_enter Try.func21, Try.ntmps21
  go_wp2_with (first | (go_at_call 24; refine hf.out.mono ?_; rintro e w1 ⟨rfl, hfr⟩))
  go_ret2
  exact ⟨rfl, hfr⟩

set_option maxHeartbeats 1000000 in
theorem remove_ok {r : Nat} {a : Option Addr} {c : Nat} {l xs ys : List Rec} {q : Rec} (ad k : Int) (w : World) (h : Is w r a c l) (hl : l = xs ++ q :: ys) (hx : ∀ x ∈ xs, lt ad k x = true) (hy : lt ad k q = false) (hn : l.length ≤ 1000000000)
    (hh : isHd (q :: ys) ad k = true) :
    Calls Try.prog 21 #[.pointer (some ⟨r, 0, none⟩), .int .u64 ad, .int .i64 k] w (Post (.tuple #[.int .u64 q.d, .int .i64 0]) r (xs ++ ys) (fun x => x = r) w) := by
  have hf := find_fr ad k w h hl hx (by rintro y z ⟨⟩; exact hy) hn
  rw [hh] at hf
  replace hf := Lib.hid hf
  obtain ⟨i0, hi, hz0, hz1, hz2⟩ := info_parts Try.infoSpecial
  have H := Lib.hid (And.intro h hl)
  have hxl : xs.length < l.length := by rw [hl]; simp
  have hlc := h.len
  clear h hl hx hy hh
  go_enter Try.func21, Try.ntmps21
  go_wp2_with fail
  refine hf.out.mono ?_
  rintro e w1 ⟨rfl, hfr1⟩
  obtain ⟨h, hl⟩ := H.out
  have h1 := h.fr hfr1 (fun x => x) (fun _ _ x => x)
  have hr0 := cell_blk h1.root 0
  simp only [List.getElem?_toArray, List.getElem?_cons_zero] at hr0
  obtain ⟨g, rfl, c0, c1, c2⟩ := h1.cells (i := xs.length) (x := q) (by rw [hl]; simp)
  have hr1 : ∀ o, (w1.alloc o).cell? ⟨r, 0, none⟩ = some (.slice (some ⟨g, 0, none⟩) l.length c) := fun o => (World.cell?_alloc_lt _ _ _ (lt_blk h1.root)).trans hr0
  have hown : (w1.alloc (.cells #[] 49)).ownsRow w.heap.size 49 3 (.slice (some ⟨w1.heap.size, 0, none⟩) 0 0) 0 [] :=
    ownsRow_empty 3 (by rw [heap_alloc, if_pos rfl]) hfr1.size
  have hrd : Rd (w1.alloc (.cells #[] 49)) 3 (.slice (some ⟨g, 0, none⟩) xs.length c) xs.length (cells3 xs) := by
    have := ((ownsRow_rd (h1.fr ((Fr.refl (fun _ => False) w1).alloc (.cells #[] 49)) (fun x => x) (fun _ _ x => x)).row)).to (Nat.le_of_lt hxl)
    rw [hl] at this
    rw [cells3_take] at this
    exact this
  clear h1 h hl hf
  go_wp2_with (first | (with_reducible refine wpList_slice_to rfl _ _ 28 rfl 49 i0 Try.underlying28 hi (some ⟨g, 0, none⟩) l.length c rfl .i64 xs.length rfl ?b1 ?_) | (at_builtin; refine wpList_append_rd rfl _ _ 28 rfl 49 i0 _ 3 24 Try.underlying28 hi hz0 hz1 hz2 rfl (by decide) _ _ _ rfl hown (hfr1.alloc _) _ xs.length (cells3 xs) rfl hrd (cells3_one xs) ?c3 ?c4 ?_))
  case b1 => omega
  case c3 => simp only [maxLen]; omega
  case c4 => omega
  intro v2 w2 hown2 hfr2 _
  try simp only [Nat.zero_add, List.nil_append] at hown2
  clear hown hrd hr0 hr1 c0 c1 c2
  -- the rest
  obtain ⟨h, hl⟩ := H.out
  have h3 := h.fr hfr2 (fun x => x) (fun _ _ x => x)
  have hr0 := cell_blk h3.root 0
  simp only [List.getElem?_toArray, List.getElem?_cons_zero] at hr0
  have hrd := ownsRow_rd h3.row
  have hys := Lib.hid (show (cells3 l).drop ((xs.length + 1) * 3) = cells3 ys by
    have := cells3_drop (xs ++ [q]) ys
    rw [hl]; simpa using this)
  clear h hl h3
  go_wp2_with (first | (with_reducible refine wpList_slice_from rfl _ _ 28 rfl 49 i0 3 Try.underlying28 hi hz1 (some ⟨g, 0, none⟩) l.length c rfl _ hrd .i64 (xs.length + 1) rfl ?b1 ?_))
  case b1 => omega
  intro v3 hrd3
  rw [hys.out] at hrd3
  go_wp2_with (first | (at_builtin; refine wpList_append_rd rfl _ _ 28 rfl 49 i0 _ 3 24 Try.underlying28 hi hz0 hz1 hz2 rfl (by decide) _ _ _ rfl hown2 hfr2 _ _ (cells3 ys) rfl hrd3 (cells3_one _) ?c3 ?c4 ?_))
  case c3 => simp only [maxLen]; omega
  case c4 => omega
  intro v4 w4 hown4 hfr4 _
  clear hown2 hfr2 hrd hrd3 hr0 hys
  obtain ⟨h, hl⟩ := H.out
  have h4 := h.fr hfr4 (fun x => x) (fun _ _ x => x)
  have hr0 := cell_blk h4.root 0
  have hrf := free_blk h4.root 0
  simp only [List.getElem?_toArray, List.getElem?_cons_zero] at hr0
  have hlen : xs.length + (l.length - (xs.length + 1)) = (xs ++ ys).length := by rw [hl]; simp; omega
  rw [hlen, ← cells3_append] at hown4
  obtain ⟨a4, c4, rfl⟩ := ownsRow_form hown4
  have hstore := h4.store hown4 (lt_blk h.root)
  have hfar := hown4.lt
  have A := Lib.hid (And.intro hstore (And.intro hfr4 hfar))
  clear hfar
  clear h hl h4 hown4 hfr4 hstore hlen
  go_wp2
  go_ret2
  exact ⟨rfl, ⟨_, _, by simpa using A.out.1, fun g hg => (A.out.2.2 g hg).1⟩, (A.out.2.1.mono (fun _ _ => False.elim)).setCell _ _ (.inl rfl)⟩

theorem filter_snoc {α : Type} {p : α → Bool} (us : List α) (x : α) : (us ++ [x]).filter p = us.filter p ++ if p x then [x] else [] := by
  rw [List.filter_append]; by_cases h : p x = true <;> simp [h]

set_option maxHeartbeats 1000000 in
theorem of_any {r : Nat} {a : Option Addr} {c : Nat} {l : List Rec} (ad : Int) (w : World) (h : Is w r a c l) (hn : l.length ≤ 1000000000) :
    Calls Try.prog 22 #[.pointer (some ⟨r, 0, none⟩), .int .u64 ad] w (RetRow 49 3 (l.filter (fun r => r.a == ad)).length (cells3 (l.filter (fun r => r.a == ad))) w) := by
  obtain ⟨i0, hi, hz0, hz1, hz2⟩ := info_parts Try.infoSpecial
  have hr0 := cell_blk h.root 0
  simp only [List.getElem?_toArray, List.getElem?_cons_zero] at hr0
  have H := Lib.hid h
  clear h
  go_enter Try.func22, Try.ntmps22
  go_wp2_with fail
  clear hr0
  go_loopg [5, 6] l.length (fun k v i wr => ∃ us vs : List Rec, l = us ++ vs ∧ vs.length = k ∧ i = .int .i64 us.length ∧
     wr.ownsRow w.heap.size 49 3 v (us.filter (fun r => r.a == ad)).length (cells3 (us.filter (fun r => r.a == ad))) ∧ Fr (fun _ => False) w wr)
  case atStart => exact ⟨[], l, rfl, rfl, rfl, World.ownsRow_nil _ _ _ _, Fr.refl _ w⟩
  case round =>
    obtain ⟨us, vs, hy, hk, rfl, hown, hfr⟩ := hrel
    have h' := H.out.fr hfr (fun x => x) (fun _ _ x => x)
    have hr0 := cell_blk h'.root 0
    simp only [List.getElem?_toArray, List.getElem?_cons_zero] at hr0
    cases vs with
    | nil =>
      have A := Lib.hid (And.intro hy hown)
      have hlen : decide (us.length < l.length) = false := by simp [hy]
      clear h' hy hk hown
      go_wp2
      go_ret
      obtain ⟨hy, hown⟩ := A.out
      have e : us = l := by simpa using hy.symm
      exact RetRow.mk' hown hfr (by rw [e]) (by rw [e])
    | cons q vs =>
      obtain ⟨g, rfl, c0, c1, c2⟩ := h'.cells (i := us.length) (x := q) (by rw [hy]; simp)
      have hlt : us.length < l.length := by rw [hy]; simp
      have hflt : (us.filter (fun r => r.a == ad)).length ≤ us.length := List.length_filter_le _ _
      have A := Lib.hid (And.intro hy (And.intro hk hown))
      by_cases hq : (q.a == ad) = true
      · have e := Lib.hid (show (us ++ [q]).filter (fun r => r.a == ad) = us.filter (fun r => r.a == ad) ++ [q] by rw [filter_snoc, if_pos hq])
        have hrd : Rd (wr.alloc (.cells #[.int .u64 q.a, .int .i64 q.k, .int .u64 q.d] 49)) 3 (.slice (some ⟨wr.heap.size, 0, none⟩) 1 1) 1 (cells3 [q]) :=
          Rd.new (vs := [.int .u64 q.a, .int .i64 q.k, .int .u64 q.d]) (by rw [heap_alloc, if_pos rfl]) 3 1 rfl
        clear h' hy hk
        go_wp2_with (first | (at_builtin; refine wpList_append_rd rfl _ _ 28 rfl 49 i0 _ 3 24 Try.underlying28 hi hz0 hz1 hz2 rfl (by decide) _ _ _ rfl (hown.alloc _) (hfr.alloc _) _ 1 (cells3 [q]) rfl hrd (cells3_one _) ?c3 ?c4 ?_))
        case c3 => simp only [maxLen]; omega
        case c4 => omega
        intro v4 w4 hown4 hfr4 _
        have A2 := Lib.hid hown4
        clear hown hown4 hfr hrd
        go_wp2
        obtain ⟨hy, hk, _⟩ := A.out
        go_roundg vs.length
        case measure => simp at hk; omega
        case rel =>
          refine ⟨us ++ [q], vs, by simp [hy], rfl, by simp, ?_, hfr4⟩
          rw [e.out, cells3_append, List.length_append]
          exact A2.out
      · have hq : (q.a == ad) = false := by simpa using hq
        have e := Lib.hid (show (us ++ [q]).filter (fun r => r.a == ad) = us.filter (fun r => r.a == ad) by rw [filter_snoc, hq]; simp)
        clear h' hy hk hown
        go_wp2
        obtain ⟨hy, hk, hown⟩ := A.out
        go_roundg vs.length
        case measure => simp at hk; omega
        case rel =>
          refine ⟨us ++ [q], vs, by simp [hy], rfl, by simp, ?_, hfr⟩
          rw [e.out]
          exact hown

set_option maxHeartbeats 1000000 in
theorem between_any {r : Nat} {a : Option Addr} {c : Nat} {l : List Rec} (f t : Int) (w : World) (h : Is w r a c l) (hn : l.length ≤ 1000000000) :
    Calls Try.prog 14 #[.pointer (some ⟨r, 0, none⟩), .int .u64 f, .int .u64 t] w (RetRow 49 3 (l.filter (fun r => decide (f ≤ r.a) && decide (r.a < t))).length (cells3 (l.filter (fun r => decide (f ≤ r.a) && decide (r.a < t)))) w) := by
  obtain ⟨i0, hi, hz0, hz1, hz2⟩ := info_parts Try.infoSpecial
  have hr0 := cell_blk h.root 0
  simp only [List.getElem?_toArray, List.getElem?_cons_zero] at hr0
  have H := Lib.hid h
  clear h
  go_enter Try.func14, Try.ntmps14
  go_wp2_with fail
  clear hr0
  go_loopg [7, 8] l.length (fun k v i wr => ∃ us vs : List Rec, l = us ++ vs ∧ vs.length = k ∧ i = .int .i64 us.length ∧
     wr.ownsRow w.heap.size 49 3 v (us.filter (fun r => decide (f ≤ r.a) && decide (r.a < t))).length (cells3 (us.filter (fun r => decide (f ≤ r.a) && decide (r.a < t)))) ∧ Fr (fun _ => False) w wr)
  case atStart => exact ⟨[], l, rfl, rfl, rfl, World.ownsRow_nil _ _ _ _, Fr.refl _ w⟩
  case round =>
    obtain ⟨us, vs, hy, hk, rfl, hown, hfr⟩ := hrel
    have h' := H.out.fr hfr (fun x => x) (fun _ _ x => x)
    have hr0 := cell_blk h'.root 0
    simp only [List.getElem?_toArray, List.getElem?_cons_zero] at hr0
    cases vs with
    | nil =>
      have A := Lib.hid (And.intro hy hown)
      have hlen : decide (us.length < l.length) = false := by simp [hy]
      clear h' hy hk hown
      go_wp2
      go_ret
      obtain ⟨hy, hown⟩ := A.out
      have e : us = l := by simpa using hy.symm
      exact RetRow.mk' hown hfr (by rw [e]) (by rw [e])
    | cons q vs =>
      obtain ⟨g, rfl, c0, c1, c2⟩ := h'.cells (i := us.length) (x := q) (by rw [hy]; simp)
      have hlt : us.length < l.length := by rw [hy]; simp
      have hflt : (us.filter (fun r => decide (f ≤ r.a) && decide (r.a < t))).length ≤ us.length := List.length_filter_le _ _
      have A := Lib.hid (And.intro hy (And.intro hk hown))
      by_cases hq : f ≤ q.a ∧ q.a < t
      · obtain ⟨hq1, hq2⟩ := hq
        have e := Lib.hid (show (us ++ [q]).filter (fun r => decide (f ≤ r.a) && decide (r.a < t)) = us.filter (fun r => decide (f ≤ r.a) && decide (r.a < t)) ++ [q] by rw [filter_snoc, if_pos (by simp [hq1, hq2])])
        have hrd : Rd (wr.alloc (.cells #[.int .u64 q.a, .int .i64 q.k, .int .u64 q.d] 49)) 3 (.slice (some ⟨wr.heap.size, 0, none⟩) 1 1) 1 (cells3 [q]) :=
          Rd.new (vs := [.int .u64 q.a, .int .i64 q.k, .int .u64 q.d]) (by rw [heap_alloc, if_pos rfl]) 3 1 rfl
        clear h' hy hk
        go_wp2_with (first | (at_builtin; refine wpList_append_rd rfl _ _ 28 rfl 49 i0 _ 3 24 Try.underlying28 hi hz0 hz1 hz2 rfl (by decide) _ _ _ rfl (hown.alloc _) (hfr.alloc _) _ 1 (cells3 [q]) rfl hrd (cells3_one _) ?c3 ?c4 ?_))
        case c3 => simp only [maxLen]; omega
        case c4 => omega
        intro v4 w4 hown4 hfr4 _
        have A2 := Lib.hid hown4
        clear hown hown4 hfr hrd
        go_wp2
        obtain ⟨hy, hk, _⟩ := A.out
        go_roundg vs.length
        case measure => simp at hk; omega
        case rel =>
          refine ⟨us ++ [q], vs, by simp [hy], rfl, by simp, ?_, hfr4⟩
          rw [e.out, cells3_append, List.length_append]
          exact A2.out
      · have e := Lib.hid (show (us ++ [q]).filter (fun r => decide (f ≤ r.a) && decide (r.a < t)) = us.filter (fun r => decide (f ≤ r.a) && decide (r.a < t)) by rw [filter_snoc, if_neg (by simpa using hq)]; simp)
        by_cases hq1 : f ≤ q.a
        · have hq2 : ¬ q.a < t := fun h => hq ⟨hq1, h⟩
          clear h' hy hk hown hq
          go_wp2
          obtain ⟨hy, hk, hown⟩ := A.out
          go_roundg vs.length
          case measure => simp at hk; omega
          case rel => exact ⟨us ++ [q], vs, by simp [hy], rfl, by simp, by rw [e.out]; exact hown, hfr⟩
        · clear h' hy hk hown hq
          go_wp2
          obtain ⟨hy, hk, hown⟩ := A.out
          go_roundg vs.length
          case measure => simp at hk; omega
          case rel => exact ⟨us ++ [q], vs, by simp [hy], rfl, by simp, by rw [e.out]; exact hown, hfr⟩

end Rf
end Go.Proofs.Ytheadhficajhmaa
