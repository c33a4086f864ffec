/-
  Add, Remove, Of, Take, Between of package special.
-/
import Derived.Test.YtheadhficajhmaaSpec
namespace Go.Proofs.Ytheadhficajhmaa
open Go.RowKit
namespace Sp

theorem add_arg (s : Nat) (a k d : Int) (w : World) (hk : k < 1 ∨ 3 < k) :
    Calls Try.prog 8 #[.pointer (some ⟨s, 0, none⟩), .int .u64 a, .int .i64 k, .int .u64 d] w fun e w' => e = .returned (.int .i64 1) ∧ w = w' := by
  by_cases h1 : k < 1
  · clear hk
    go_enter Try.func8, Try.ntmps8
    go_wp2
    go_ret
    exact ⟨rfl, rfl⟩
  · have h2 : 3 < k := by omega
    clear hk
    go_enter Try.func8, Try.ntmps8
    go_wp2
    go_ret
    exact ⟨rfl, rfl⟩

set_option maxHeartbeats 1000000 in
theorem add_twice {s : Nat} {l xs ys : List Rec} (a k d : Int) (w : World) (h : Is w s l) (hl : l = xs ++ ys) (hp : place s l a k = slotOf s xs) (hk1 : 1 ≤ k) (hk3 : k ≤ 3) (hh : isHd ys a k = true) :
    Calls Try.prog 8 #[.pointer (some ⟨s, 0, none⟩), .int .u64 a, .int .i64 k, .int .u64 d] w fun e w' => e = .returned (.int .i64 34) ∧ w = w' := by
  have hat := Lib.hid (at_any s l a k w h)
  have his := Lib.hid (is_any a k w h hl)
  rw [hp] at hat; rw [hh] at his
  clear h hl hp hh
  go_enter Try.func8, Try.ntmps8
  go_wp2_with (first | (go_at_call 17; refine hat.out.mono ?_; rintro e w' ⟨rfl, rfl⟩) | (go_at_call 18; refine his.out.mono ?_; rintro e w' ⟨rfl, rfl⟩))
  go_ret
  exact ⟨rfl, rfl⟩

theorem IsN.slotNe {w : World} {s : Nat} {l xs ys : List Rec} {n : Int} (h : IsN w s l n) (hl : l = xs ++ ys) : slotOf s xs ≠ ⟨s, 1, none⟩ := by
  obtain ⟨_, _, _, _, h1 | ⟨zs, r, rfl, h1⟩⟩ := h.slotBlk hl
  · rw [h1.2]; simp
  · rw [h1]; simp

set_option maxHeartbeats 1000000 in
theorem add_ok {s : Nat} {l xs ys : List Rec} (a k d : Int) (w : World) (h : Is w s l) (hl : l = xs ++ ys) (hp : place s l a k = slotOf s xs) (hk1 : 1 ≤ k) (hk3 : k ≤ 3) (hh : isHd ys a k = false) (hn : l.length ≤ 1000000000) :
    Calls Try.prog 8 #[.pointer (some ⟨s, 0, none⟩), .int .u64 a, .int .i64 k, .int .u64 d] w fun e w' => e = .returned (.int .i64 0) ∧ 
      Is w' s (xs ++ ⟨w.heap.size, a, k, d⟩ :: ys) ∧ Fr (fp s l) w w' := by
  have hat := Lib.hid (at_any s l a k w h)
  have his := Lib.hid (is_any a k w h hl)
  rw [hp] at hat; rw [hh] at his
  have hlt := h.slotLt hl
  have hc := h.slot hl
  have hf : ∀ o, (w.alloc o).frozen? (slotOf s xs) = false := fun o => (World.frozen?_alloc_old _ _ _ (Nat.ne_of_lt hlt)).trans (h.slotFree hl)
  have hc' : ∀ o, (w.alloc o).cell? (slotOf s xs) = some (.pointer (hd ys)) := fun o => (World.cell?_alloc_lt _ _ _ hlt).trans hc
  have hc1 : ∀ o v, ((w.alloc o).setCell (slotOf s xs) v).cell? ⟨s, 1, none⟩ = some (.int .i64 l.length) := fun o v =>
    (World.cell?_setCell_other _ _ _ _ (h.slotNe hl)).trans ((World.cell?_alloc_lt _ _ _ h.lt.1).trans (blk2 h.root).2)
  have hf1 : ∀ o v, ((w.alloc o).setCell (slotOf s xs) v).frozen? ⟨s, 1, none⟩ = false := fun o v =>
    (World.frozen?_setCell _ _ _ _).trans ((World.frozen?_alloc_old _ _ _ (Nat.ne_of_lt h.lt.1)).trans (free_blk h.root 1))
  have H := Lib.hid (And.intro h hl)
  clear h hl hp hh hlt
  go_enter Try.func8, Try.ntmps8
  go_wp2_with (first | (go_at_call 17; refine hat.out.mono ?_; rintro e w' ⟨rfl, rfl⟩) | (go_at_call 18; refine his.out.mono ?_; rintro e w' ⟨rfl, rfl⟩))
  go_ret
  obtain ⟨h, hl⟩ := H.out
  refine ⟨rfl, ?_, ?_⟩
  · exact ((h.ins hl a k d).setN (l.length + 1)).is (by rw [hl]; simp; omega)
  · exact (((Fr.refl _ w).alloc _).setCell _ _ (.inl (hl ▸ fp_slot s xs ys))).setCell _ _ (.inl (.inl rfl))

set_option maxHeartbeats 1000000 in
theorem remove_none {s : Nat} {l xs ys : List Rec} (a k : Int) (w : World) (h : Is w s l) (hl : l = xs ++ ys) (hp : place s l a k = slotOf s xs) (hh : isHd ys a k = false) :
    Calls Try.prog 19 #[.pointer (some ⟨s, 0, none⟩), .int .u64 a, .int .i64 k] w fun e w' => e = .returned (.tuple #[.int .u64 0, .int .i64 35]) ∧ w = w' := by
  have hat := Lib.hid (at_any s l a k w h)
  have his := Lib.hid (is_any a k w h hl)
  rw [hp] at hat; rw [hh] at his
  clear h hl hp hh
  go_enter Try.func19, Try.ntmps19
  go_wp2_with (first | (go_at_call 17; refine hat.out.mono ?_; rintro e w' ⟨rfl, rfl⟩) | (go_at_call 18; refine his.out.mono ?_; rintro e w' ⟨rfl, rfl⟩))
  go_ret2
  exact ⟨rfl, rfl⟩

set_option maxHeartbeats 1000000 in
theorem remove_ok {s : Nat} {l xs ys : List Rec} {r : Rec} (a k : Int) (w : World) (h : Is w s l) (hl : l = xs ++ r :: ys) (hp : place s l a k = slotOf s xs) (hh : isHd (r :: ys) a k = true) (hn : l.length ≤ 1000000000) :
    Calls Try.prog 19 #[.pointer (some ⟨s, 0, none⟩), .int .u64 a, .int .i64 k] w fun e w' => e = .returned (.tuple #[.int .u64 r.d, .int .i64 0]) ∧
      Is w' s (xs ++ ys) ∧ Fr (fp s l) w w' := by
  have hat := Lib.hid (at_any s l a k w h)
  have his := Lib.hid (is_any a k w h hl)
  rw [hp] at hat; rw [hh] at his
  have hc := h.slot hl
  have hf := h.slotFree hl
  obtain ⟨_, _, hc2, hc3⟩ := h.cells hl
  have hc1 : ∀ v, (w.setCell (slotOf s xs) v).cell? ⟨s, 1, none⟩ = some (.int .i64 l.length) := fun v =>
    (World.cell?_setCell_other _ _ _ _ (h.slotNe hl)).trans (blk2 h.root).2
  have hf1 := free_blk h.root 1
  have hne := hl ▸ h
  have hne := hne.ne
  have hslot : slotOf s xs ≠ ⟨r.b, 2, none⟩ := by
    obtain ⟨_, _, _, _, h1 | ⟨zs, q, rfl, h1⟩⟩ := h.slotBlk hl
    · rw [h1.2]; exact fun e => hne.1 (by injection e with e; exact e.symm)
    · rw [h1]; simp
  have hd' : ∀ v u, ((w.setCell (slotOf s xs) v).setCell ⟨s, 1, none⟩ u).cell? ⟨r.b, 2, none⟩ = some (.int .u64 r.d) := fun v u =>
    (World.cell?_setCell_other _ _ _ _ (by intro e; injection e with e; exact hne.1 e.symm)).trans ((World.cell?_setCell_other _ _ _ _ hslot).trans hc2)
  have h1 : 1 ≤ l.length := by rw [hl]; simp; omega
  simp only [hd_cons] at hc
  have H := Lib.hid (And.intro h hl)
  clear h hl hp hh hslot hne
  go_enter Try.func19, Try.ntmps19
  go_wp2_with (first | (go_at_call 17; refine hat.out.mono ?_; rintro e w' ⟨rfl, rfl⟩) | (go_at_call 18; refine his.out.mono ?_; rintro e w' ⟨rfl, rfl⟩))
  go_ret2
  obtain ⟨h, hl⟩ := H.out
  refine ⟨rfl, ?_, ?_⟩
  · exact (IsN.setN (IsN.cut (hl ▸ h)) (l.length - 1)).is (by rw [hl]; simp; omega)
  · exact ((Fr.refl _ w).setCell _ _ (.inl (hl ▸ fp_slot s xs _))).setCell _ _ (.inl (.inl rfl))

theorem new_any (w : World) :
    Calls Try.prog 7 #[] w fun e w' => e = .returned (.pointer (some ⟨w.heap.size, 0, none⟩)) ∧ Is w' w.heap.size [] ∧ Fr (fun _ => False) w w' := by
  go_enter Try.func7, Try.ntmps7
  go_wp2
  go_ret
  exact ⟨rfl, ⟨by rw [heap_alloc, if_pos rfl]; rfl, by simp, by simp⟩, (Fr.refl _ w).alloc _⟩

theorem count_any {s : Nat} {l : List Rec} {n : Int} (w : World) (h : IsN w s l n) :
    Calls Try.prog 13 #[.pointer (some ⟨s, 0, none⟩)] w fun e w' => e = .returned (.int .i64 n) ∧ w = w' := by
  have hc := (blk2 h.root).2
  clear h
  go_enter Try.func13, Try.ntmps13
  go_wp2
  go_ret
  exact ⟨rfl, rfl⟩
end Sp
end Go.Proofs.Ytheadhficajhmaa
