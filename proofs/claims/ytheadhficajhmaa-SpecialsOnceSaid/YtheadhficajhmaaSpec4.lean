/-
  Take of package special.
-/
import Derived.Test.YtheadhficajhmaaSpec3
namespace Go.Proofs.Ytheadhficajhmaa
open Go.RowKit
namespace Sp

theorem fp_lt {w : World} {s : Nat} {l : List Rec} {n : Int} (h : IsN w s l n) : ∀ b, fp s l b → b < w.heap.size := by
  rintro b (rfl | ⟨r, hr, rfl⟩)
  · exact h.lt.1
  · exact h.lt.2 r hr

set_option maxHeartbeats 1000000 in
theorem take_any {s : Nat} {l xs zs vs : List Rec} (a : Int) (w : World) (h : Is w s l) (hl : l = xs ++ (zs ++ vs)) (hp : place s l a 0 = slotOf s xs) (hn : l.length ≤ 1000000000)
    (hz : (zs ++ vs).takeWhile (fun r => r.a == a) = zs) :
    Calls Try.prog 15 #[.pointer (some ⟨s, 0, none⟩), .int .u64 a] w
      (RetRowI 49 3 zs.length (cells3 zs) (fp s l) (fun w' => Is w' s (xs ++ vs)) w) := by
  have hof := of_any a w h hl hp hn
  rw [hz] at hof
  replace hof := Lib.hid hof
  have H := Lib.hid (And.intro h (And.intro hl (And.intro hp hn)))
  clear h hl hp hn hz
  go_enter Try.func15, Try.ntmps15
  go_wp2_with (first | (go_at_call 16; refine hof.out.mono ?_; rintro e w1 ⟨va, vc, rfl, hown, hfr⟩))
  obtain ⟨h, hl, hp, hn⟩ := H.out
  have h1 := nodes_keep h hfr
  have hat := at_any s l a 0 w1 h1
  rw [hp] at hat
  replace hat := Lib.hid hat
  have hzl : zs.length ≤ 1000000000 := by rw [hl] at hn; simp at hn; omega
  clear h hl hp hn h1 hof
  have H2 := Lib.hid (And.intro hown hfr)
  clear hown hfr
  go_wp2_with (first | (go_at_call 17; refine hat.out.mono ?_; rintro e w' ⟨rfl, rfl⟩))
  clear hat
  go_loopg [15] zs.length (fun k i wr => ∃ j us : _, i = .int .i64 (j : Nat) ∧ j + us.length = zs.length ∧ us.length = k ∧ (j = 0 → us = zs) ∧ IsN wr s (xs ++ (us ++ vs)) l.length ∧ Fr (fp s l) w1 wr)
  case atStart =>
    obtain ⟨h, hl, hp, hn⟩ := H.out
    exact ⟨0, zs, rfl, by simp, rfl, fun _ => rfl, hl ▸ nodes_keep h H2.out.2, Fr.refl _ _⟩
  case round =>
    obtain ⟨j, us, rfl, hj, hk, _, hi, hfr⟩ := hrel
    cases us with
    | nil =>
      obtain ⟨hown, hfr0⟩ := H2.out
      obtain ⟨h, hl, hp, hn⟩ := H.out
      have hc := (blk2 hi.root).2
      have hfz := free_blk hi.root 1
      have hb := fp_lt h
      have hlen : zs.length ≤ l.length := by rw [hl]; simp; omega
      have hjz : j = zs.length := by simpa using hj
      subst hjz
      have A := Lib.hid (And.intro (show Fr (fp s l) w w1 from hfr0.mono (fun _ _ => False.elim)) (And.intro hown (And.intro hi (And.intro hfr (And.intro hb hl)))))
      clear hj hk hi hfr hown hfr0 h hl hp hb
      go_wp2
      go_ret
      obtain ⟨hfr0, hown, hi, hfr, hb, hl⟩ := A.out
      have hi' := hi.setN ((l.length : Int) - zs.length)
      have hF := (hfr0.trans hfr (fun _ _ x => x)).setCell ⟨s, 1, none⟩ (.int .i64 ((l.length : Int) - zs.length)) (.inl (.inl rfl))
      refine ⟨_, _, rfl, ownsRow_fr hown (Fr.setCell hfr _ _ (.inl (.inl rfl))) hb, hF, ?_⟩
      exact IsN.is (n := (l.length : Int) - zs.length) (by simpa using hi') (by rw [hl]; simp; omega)
    | cons r us =>
      have hs := hi.slot (xs := xs) rfl
      have hsf := hi.slotFree (xs := xs) rfl
      obtain ⟨c0, c1, c2, c3⟩ := hi.cells (xs := xs) (ys := us ++ vs) (r := r) (by simp)
      rw [List.cons_append, hd_cons] at hs
      have hlt : j < zs.length := by simp at hj; omega
      have A := Lib.hid (And.intro hj (And.intro hk (And.intro hi hfr)))
      clear hj hk hi hfr
      go_wp2
      obtain ⟨hj, hk, hi, hfr⟩ := A.out
      go_roundg us.length
      case measure => simp at hk; omega
      case rel =>
        refine ⟨j + 1, us, by go_num, by simp at hj; omega, rfl, by omega, ?_, ?_⟩
        · exact (IsN.cut (xs := xs) (ys := us ++ vs) (r := r) (by simpa using hi))
        · obtain ⟨h, hl, _⟩ := H.out
          exact hfr.setCell _ _ (.inl (hl ▸ fp_slot s xs _))
end Sp
end Go.Proofs.Ytheadhficajhmaa
