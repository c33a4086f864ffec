/-
  The statement's own look at the sets.
-/
import Derived.Test.YtanaicjeheacoaaOwn
namespace Go.Proofs.Ytanaicjeheacoaa
open Go.RowKit Go.Deep

theorem put_fresh {B s : Nat} {L : List It} {w0 w : World} (h : Own B s L w0 w) (id base cls : Int) (np fu sw : Bool) (hL : L.length ≤ 1000000) (hid : 1 ≤ id) (hc : 0 ≤ cls ∧ cls < 68) (hI : ∀ x ∈ L, x.id ≠ id) (hB : ∀ x ∈ L, x.base ≠ base) :
    Calls Try.prog 8 #[.pointer (some ⟨s, 0, none⟩), .int .i64 id, .int .u64 base, .int .i64 cls, .bool np, .bool fu, .bool sw] w fun e w' =>
      ∃ b, e = .returned (.int .i64 0) ∧ Hid (Own B s (L ++ [⟨b, id, base, (cls, np, fu, sw)⟩]) w0 w') :=
  (put_ok w h.is id base cls np fu sw hid hc hI hB hL).mono fun e w' ⟨he, hi, hf⟩ => ⟨_, he, Lib.hid (h.next hi hf)⟩

theorem take_none {B s : Nat} {L : List It} {w0 w : World} (h : Own B s L w0 w) (k1 : Int) (k2 k3 k4 : Bool) (hL : L.length ≤ 1000000) (hk : ∀ x ∈ L, x.kd ≠ (k1, k2, k3, k4)) :
    Calls Try.prog 9 #[.pointer (some ⟨s, 0, none⟩), .int .i64 k1, .bool k2, .bool k3, .bool k4] w fun e w' =>
      e = .returned (.tuple #[.int .i64 0, .bool false]) ∧ Hid (Own B s L w0 w') :=
  (take_any w h.is k1 k2 k3 k4 hL).mono fun e w' ⟨id, ok, L', he, ht, hi, hf⟩ => by
    rcases ht with ⟨rfl, rfl, rfl, _⟩ | ⟨_, x, hx, hxk, _⟩
    · exact ⟨he, Lib.hid (h.next hi hf)⟩
    · exact absurd hxk (hk x hx)

theorem take_one {B s : Nat} {L : List It} {w0 w : World} (h : Own B s L w0 w) (k1 : Int) (k2 k3 k4 : Bool) (hL : L.length ≤ 1000000) (x : It) (hx : x ∈ L) (hk : x.kd = (k1, k2, k3, k4)) (hl : ∀ y ∈ L, y.kd = (k1, k2, k3, k4) → y.base ≤ x.base → y = x) :
    Calls Try.prog 9 #[.pointer (some ⟨s, 0, none⟩), .int .i64 k1, .bool k2, .bool k3, .bool k4] w fun e w' =>
      e = .returned (.tuple #[.int .i64 x.id, .bool true]) ∧ Hid (Own B s (L.filter (fun y => decide (y.id ≠ x.id))) w0 w') :=
  (take_any w h.is k1 k2 k3 k4 hL).mono fun e w' ⟨id, ok, L', he, ht, hi, hf⟩ => by
    rcases ht with ⟨_, _, _, hn⟩ | ⟨rfl, y, hy, hyk, rfl, hyl, rfl⟩
    · exact absurd hk (hn x hx)
    · have := hl y hy hyk (hyl x hx hk)
      subst this
      exact ⟨he, Lib.hid (h.next hi hf)⟩

set_option maxHeartbeats 4000000 in
theorem awake_any (w : World) : Calls Try.prog 12 #[] w fun e w' => e = .returned (.bool true) ∧ Fr (fun _ => False) w w' := by
  go_enter Try.func12, Try.ntmps12
  go_wp2_with fail
  refine (news w).mono ?_
  rintro e w1 ⟨s, rfl, O1⟩
  have P1 := Lib.hid (put_fresh O1.out 1 90 5 false false true (by simp) (by decide) (by decide) (by simp) (by simp))
  go_wp2_with fail
  refine P1.out.mono ?_
  rintro e w2 ⟨b1, rfl, O2⟩
  have P2 := Lib.hid (put_fresh O2.out 2 50 5 false false true (by simp) (by decide) (by decide) (by simp) (by simp))
  go_wp2_with fail
  refine P2.out.mono ?_
  rintro e w3 ⟨b2, rfl, O3⟩
  have P3 := Lib.hid (take_one O3.out 5 false false true (by simp) ⟨b2, 2, 50, (5, false, false, true)⟩ (by simp) rfl (by simp))
  go_wp2_with fail
  refine P3.out.mono ?_
  rintro e w4 ⟨rfl, O4⟩
  have P4 := Lib.hid (take_none O4.out 5 true false true (by simp) (by simp))
  go_wp2_with fail
  refine P4.out.mono ?_
  rintro e w5 ⟨rfl, O5⟩
  have P5 := Lib.hid (counts O5.out true (by simp))
  simp [num] at P5
  go_wp2_with fail
  refine P5.out.mono ?_
  rintro e w6 ⟨rfl, O6⟩
  have P6 := Lib.hid (counts O6.out false (by simp))
  simp [num] at P6
  go_wp2_with fail
  refine P6.out.mono ?_
  rintro e w7 ⟨rfl, O7⟩
  go_wp2
  go_ret
  exact ⟨rfl, O7.out.done⟩
end Go.Proofs.Ytanaicjeheacoaa
