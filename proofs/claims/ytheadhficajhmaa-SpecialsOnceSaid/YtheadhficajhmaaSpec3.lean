/-
  Of, Between, Take of package special.
-/
import Derived.Test.YtheadhficajhmaaSpec2
namespace Go.Proofs.Ytheadhficajhmaa
open Go.RowKit

theorem Try.infoSpecial : (Try.prog.info? 49).map (fun i => (i.zero, i.size, i.bytes)) = some (some (.agg #[.int .u64 0, .int .i64 0, .int .u64 0]), 3, 24) := by kernel_rfl

namespace Sp

/-- a record's cells as an api.Special -/
def cell3 (r : Rec) : List Value := [.int .u64 r.a, .int .i64 r.k, .int .u64 r.d]
def cells3 (l : List Rec) : List Value := l.flatMap cell3

theorem cells3_snoc (l : List Rec) (r : Rec) : cells3 (l ++ [r]) = cells3 l ++ [.int .u64 r.a, .int .i64 r.k, .int .u64 r.d] := by simp [cells3, cell3]

/-- what is at a head that a test lets by -/
theorem takeWhile_cons_true {α : Type} {p : α → Bool} {x : α} {xs : List α} (h : p x = true) : (x :: xs).takeWhile p = x :: xs.takeWhile p := by simp [h]

theorem nodes_keep {w w' : World} {s : Nat} {l : List Rec} {n : Int} (h : IsN w s l n) (hf : Fr (fun _ => False) w w') : IsN w' s l n :=
  ⟨hf.at h.root (fun x => x), fun xs r ys hl => hf.at (h.node xs r ys hl) (fun x => x), h.nodup⟩

set_option maxHeartbeats 1000000 in
theorem between_any {s : Nat} {l xs ys : List Rec} (a b : Int) (w : World) (h : Is w s l) (hl : l = xs ++ ys) (hp : place s l a 0 = slotOf s xs) (hn : l.length ≤ 1000000000) :
    Calls Try.prog 9 #[.pointer (some ⟨s, 0, none⟩), .int .u64 a, .int .u64 b] w
      (RetRow 49 3 (ys.takeWhile (fun r => decide (r.a < b))).length (cells3 (ys.takeWhile (fun r => decide (r.a < b)))) w) := by
  have hat := Lib.hid (at_any s l a 0 w h)
  rw [hp] at hat
  have hc := h.slot hl
  obtain ⟨i0, hi, hz0, hz1, hz2⟩ := info_parts Try.infoSpecial
  have H := Lib.hid (And.intro h (And.intro hl hn))
  clear h hl hp hn
  go_enter Try.func9, Try.ntmps9
  go_wp2_with (first | (go_at_call 17; refine hat.out.mono ?_; rintro e w' ⟨rfl, rfl⟩))
  go_loopg [7, 8] ys.length (fun k v p wr => ∃ us vs : List Rec, ys = us ++ vs ∧ vs.length = k ∧ (∀ u ∈ us, u.a < b) ∧ p = .pointer (hd vs) ∧ 
     wr.ownsRow w.heap.size 49 3 v us.length (cells3 us) ∧ Fr (fun _ => False) w wr)
  case atStart => exact ⟨[], ys, rfl, rfl, by simp, rfl, World.ownsRow_nil _ _ _ _, Fr.refl _ w⟩
  case round =>
    obtain ⟨us, vs, hy, hk, hu, rfl, hown, hfr⟩ := hrel
    obtain ⟨h, hl, hn⟩ := H.out
    have h' := nodes_keep h hfr
    clear hc
    cases vs with
    | nil =>
      simp only [hd_nil]
      have A := Lib.hid (And.intro hy (And.intro hu hown))
      clear hl hn h h' hy hk hu hown
      go_wp2
      go_ret
      obtain ⟨hy, hu, hown⟩ := A.out
      have e : List.takeWhile (fun r : Rec => decide (r.a < b)) ys = us := by
        rw [hy]; exact takeWhile_split (by simpa using hu) (by simp)
      exact RetRow.mk' hown hfr (by rw [e]) (by rw [e])
    | cons r vs =>
      have hl' : l = (xs ++ us) ++ r :: vs := by rw [hl, hy]; simp
      obtain ⟨c0, c1, c2, c3⟩ := h'.cells hl'
      simp only [hd_cons]
      by_cases hlt : r.a < b
      · have hlen : us.length + 1 ≤ 1000000000 := by
          have : l.length = xs.length + us.length + (vs.length + 1) := by rw [hl']; simp; omega
          omega
        have A := Lib.hid (And.intro hy (And.intro hu (And.intro hk hfr)))
        have hsz := hfr.size
        clear hl hn h h' hy hk hu hl' hfr
        go_wp2_with (first | (at_builtin; refine wpList_append_own _ rfl _ _ 28 rfl w.heap.size 49 i0 _ 3 24 Try.underlying28 hi hz0 hz1 hz2 rfl (by decide) _ _ _ rfl (hown.alloc _) ⟨wr.heap.size, 0, none⟩ 1 1 [.int .u64 r.a, .int .i64 r.k, .int .u64 r.d] rfl rfl ?c1 ?c2 ?c3 ?c4 ?c5 ?_))
        case c1 => exact cells_new _ _ _
        case c2 => simp [Value.oneCell']
        case c3 => simp only [maxLen]; omega
        case c4 => omega
        case c5 => simp; omega
        obtain ⟨hy, hu, hk, hfr⟩ := A.out
        obtain ⟨h, hl, hn⟩ := H.out
        intro v' w1 hown' hgrow _
        have hfr1 := (hfr.alloc _).grown hgrow (hown.alloc _)
        have c3' := ((nodes_keep h hfr1).cells (xs := xs ++ us) (ys := vs) (r := r) (by rw [hl, hy]; simp)).2.2.2
        clear hgrow hl hn h hy hu hk hfr c0 c1 c2 c3
        go_wp2
        obtain ⟨hy, hu, hk, hfr⟩ := A.out
        go_roundg vs.length
        case measure => simp at hk; omega
        case rel => exact ⟨us ++ [r], vs, by simp [hy], rfl, by intro u hu'; rcases List.mem_append.1 hu' with h | h; exact hu u h; simp at h; subst h; exact hlt, rfl, by rw [cells3_snoc]; simpa using hown', hfr1⟩
      · have A := Lib.hid (And.intro hy (And.intro hu hown))
        clear hl hn h h' hy hk hu hown hl'
        go_wp2
        go_ret
        obtain ⟨hy, hu, hown⟩ := A.out
        have e : ys.takeWhile (fun r => decide (r.a < b)) = us := by
          rw [hy]; exact takeWhile_split (by simpa using hu) (by rintro y z ⟨⟩; simpa using hlt)
        exact RetRow.mk' hown hfr (by rw [e]) (by rw [e])
set_option maxHeartbeats 1000000 in
theorem of_any {s : Nat} {l xs ys : List Rec} (a : Int) (w : World) (h : Is w s l) (hl : l = xs ++ ys) (hp : place s l a 0 = slotOf s xs) (hn : l.length ≤ 1000000000) :
    Calls Try.prog 16 #[.pointer (some ⟨s, 0, none⟩), .int .u64 a] w
      (RetRow 49 3 (ys.takeWhile (fun r => r.a == a)).length (cells3 (ys.takeWhile (fun r => r.a == a))) w) := by
  have hat := Lib.hid (at_any s l a 0 w h)
  rw [hp] at hat
  have hc := h.slot hl
  obtain ⟨i0, hi, hz0, hz1, hz2⟩ := info_parts Try.infoSpecial
  have H := Lib.hid (And.intro h (And.intro hl hn))
  clear h hl hp hn
  go_enter Try.func16, Try.ntmps16
  go_wp2_with (first | (go_at_call 17; refine hat.out.mono ?_; rintro e w' ⟨rfl, rfl⟩))
  go_loopg [5, 6] ys.length (fun k v p wr => ∃ us vs : List Rec, ys = us ++ vs ∧ vs.length = k ∧ (∀ u ∈ us, (u.a == a) = true) ∧ p = .pointer (hd vs) ∧ 
     wr.ownsRow w.heap.size 49 3 v us.length (cells3 us) ∧ Fr (fun _ => False) w wr)
  case atStart => exact ⟨[], ys, rfl, rfl, by simp, rfl, World.ownsRow_nil _ _ _ _, Fr.refl _ w⟩
  case round =>
    obtain ⟨us, vs, hy, hk, hu, rfl, hown, hfr⟩ := hrel
    obtain ⟨h, hl, hn⟩ := H.out
    have h' := nodes_keep h hfr
    clear hc
    cases vs with
    | nil =>
      simp only [hd_nil]
      have A := Lib.hid (And.intro hy (And.intro hu hown))
      clear hl hn h h' hy hk hu hown
      go_wp2
      go_ret
      obtain ⟨hy, hu, hown⟩ := A.out
      have e : List.takeWhile (fun r : Rec => r.a == a) ys = us := by
        rw [hy]; exact takeWhile_split (by exact hu) (by simp)
      exact RetRow.mk' hown hfr (by rw [e]) (by rw [e])
    | cons r vs =>
      have hl' : l = (xs ++ us) ++ r :: vs := by rw [hl, hy]; simp
      obtain ⟨c0, c1, c2, c3⟩ := h'.cells hl'
      simp only [hd_cons]
      by_cases hlt : (r.a == a) = true
      · have hlen : us.length + 1 ≤ 1000000000 := by
          have : l.length = xs.length + us.length + (vs.length + 1) := by rw [hl']; simp; omega
          omega
        have A := Lib.hid (And.intro hy (And.intro hu (And.intro hk hfr)))
        have hsz := hfr.size
        clear hl hn h h' hy hk hu hl' hfr
        go_wp2_with (first | (at_builtin; refine wpList_append_own _ rfl _ _ 28 rfl w.heap.size 49 i0 _ 3 24 Try.underlying28 hi hz0 hz1 hz2 rfl (by decide) _ _ _ rfl (hown.alloc _) ⟨wr.heap.size, 0, none⟩ 1 1 [.int .u64 r.a, .int .i64 r.k, .int .u64 r.d] rfl rfl ?c1 ?c2 ?c3 ?c4 ?c5 ?_))
        case c1 => exact cells_new _ _ _
        case c2 => simp [Value.oneCell']
        case c3 => simp only [maxLen]; omega
        case c4 => omega
        case c5 => simp; omega
        obtain ⟨hy, hu, hk, hfr⟩ := A.out
        obtain ⟨h, hl, hn⟩ := H.out
        intro v' w1 hown' hgrow _
        have hfr1 := (hfr.alloc _).grown hgrow (hown.alloc _)
        have c3' := ((nodes_keep h hfr1).cells (xs := xs ++ us) (ys := vs) (r := r) (by rw [hl, hy]; simp)).2.2.2
        clear hgrow hl hn h hy hu hk hfr c0 c1 c2 c3
        go_wp2
        obtain ⟨hy, hu, hk, hfr⟩ := A.out
        go_roundg vs.length
        case measure => simp at hk; omega
        case rel => exact ⟨us ++ [r], vs, by simp [hy], rfl, by intro u hu'; rcases List.mem_append.1 hu' with h | h; exact hu u h; simp at h; subst h; exact hlt, rfl, by rw [cells3_snoc]; simpa using hown', hfr1⟩
      · have hlt : (r.a == a) = false := by simpa using hlt
        have A := Lib.hid (And.intro hy (And.intro hu hown))
        clear hl hn h h' hy hk hu hown hl'
        go_wp2
        go_ret
        obtain ⟨hy, hu, hown⟩ := A.out
        have e : ys.takeWhile (fun r => r.a == a) = us := by
          rw [hy]; exact takeWhile_split (by exact hu) (by rintro y z ⟨⟩; exact hlt)
        exact RetRow.mk' hown hfr (by rw [e]) (by rw [e])
end Sp
end Go.Proofs.Ytheadhficajhmaa
