/-
  SetsKinds: the walk.
-/
import Derived.Test.YtanaicjeheacoaaAwake
namespace Go.Proofs.Ytanaicjeheacoaa
open Go.RowKit Go.Deep

/-- the call answers true, and leaves what was there -/
def Law (w : World) (e : Ending) (w' : World) : Prop := e = .returned (.bool true) ∧ Fr (fun _ => False) w w'

theorem put_again {B s : Nat} {L : List It} {w0 w : World} (h : Own B s L w0 w) (id base cls : Int) (np fu sw : Bool) (hL : L.length ≤ 1000000) (hid : 1 ≤ id) (hc : 0 ≤ cls ∧ cls < 68) (hx : ∃ x ∈ L, x.id = id ∨ x.base = base) :
    Calls Try.prog 8 #[.pointer (some ⟨s, 0, none⟩), .int .i64 id, .int .u64 base, .int .i64 cls, .bool np, .bool fu, .bool sw] w fun e w' => e = .returned (.int .i64 34) ∧ Hid (Own B s L w0 w') :=
  (put_twice w h.is id base cls np fu sw hid hc hx).mono fun e w' ⟨he, hw⟩ => by subst hw; exact ⟨he, Lib.hid h⟩

theorem remove_no {B s : Nat} {L : List It} {w0 w : World} (h : Own B s L w0 w) (id : Int) (hL : L.length ≤ 1000000) (hx : ∀ x ∈ L, x.id ≠ id) :
    Calls Try.prog 11 #[.pointer (some ⟨s, 0, none⟩), .int .i64 id] w fun e w' => e = .returned (.int .i64 35) ∧ Hid (Own B s L w0 w') :=
  (removes h id hL).mono fun e w' ⟨c, L', he, hh⟩ => by
    obtain ⟨ho, ⟨rfl, rfl, _⟩ | ⟨_, ⟨x, hm, hi⟩, _⟩⟩ := hh.out
    · exact ⟨he, Lib.hid ho⟩
    · exact absurd hi (hx x hm)

/-- of one span alone: Least -/
theorem least_one {B s : Nat} {w0 w : World} (x : It) (h : Own B s [x] w0 w) :
    Calls Try.prog 10 #[.pointer (some ⟨s, 0, none⟩)] w fun e w' => e = .returned (.tuple #[.int .i64 (if x.kd.2.2.2 = true then 0 else x.id), .bool (!x.kd.2.2.2)]) ∧ Hid (Own B s [x] w0 w') :=
  (leasts h (by simp)).mono fun e w' ⟨id, ok, he, hh⟩ => by
    obtain ⟨ho, ⟨rfl, rfl, hs⟩ | ⟨rfl, y, hy, rfl, hys, _⟩⟩ := hh.out
    · have := hs x (by simp)
      exact ⟨by rw [he, this]; rfl, Lib.hid ho⟩
    · simp only [List.mem_singleton] at hy
      subst hy
      exact ⟨by rw [he, hys]; rfl, Lib.hid ho⟩

set_option maxRecDepth 100000 in
set_option maxHeartbeats 8000000 in
theorem kinds_any (w : World) (cls : Int) (hw : (Lit.int .i64 cls).wf = true) (np fu sw : Bool) (other : Int) : Calls Try.prog 3 #[.int .i64 cls, .bool np, .bool fu, .bool sw, .int .i64 other] w (Law w) := by
  clear hw
  by_cases h1 : cls < 0
  · go_enter Try.func3, Try.ntmps3
    go_wp2
    go_ret
    exact ⟨rfl, Fr.refl _ _⟩
  by_cases h2 : 67 < cls
  · go_enter Try.func3, Try.ntmps3
    go_wp2
    go_ret
    exact ⟨rfl, Fr.refl _ _⟩
  go_enter Try.func3, Try.ntmps3
  go_wp2_with fail
  refine (news w).mono ?_
  rintro e w1 ⟨s, rfl, O1⟩
  have P1 := Lib.hid (put_fresh O1.out 3 8192 cls np fu sw (by simp) (by decide) (by omega) (by simp) (by simp))
  go_wp2_with fail
  refine P1.out.mono ?_
  rintro e w2 ⟨b1, rfl, O2⟩
  have P2 := Lib.hid (put_again O2.out 3 16384 cls np fu sw (by simp) (by decide) (by omega) ⟨⟨b1, 3, 8192, (cls, np, fu, sw)⟩, by simp, .inl rfl⟩)
  go_wp2_with fail
  refine P2.out.mono ?_
  rintro e w3 ⟨rfl, O3⟩
  have P3 := Lib.hid (put_again O3.out 4 8192 5 false false true (by simp) (by decide) (by decide) ⟨⟨b1, 3, 8192, (cls, np, fu, sw)⟩, by simp, .inr rfl⟩)
  go_wp2_with fail
  refine P3.out.mono ?_
  rintro e w4 ⟨rfl, O4⟩
  clear P1 P2 P3 O1 O2 O3
  obtain ⟨x, hxd⟩ : ∃ x : It, x = ⟨b1, 3, 8192, (cls, np, fu, sw)⟩ := ⟨_, rfl⟩
  have O4 := Lib.hid (show Own w.heap.size s [x] w w4 by rw [hxd]; exact O4.out)
  have XD := Lib.hid hxd
  clear hxd
  go_wp2_with fail
  go_loopg [12] 16 (fun k i wr => ∃ j : Nat, i = .int .i64 j ∧ j + k = 16 ∧ Hid (Own w.heap.size s [x] w wr))
  case atStart => exact ⟨0, rfl, rfl, O4⟩
  case round =>
    obtain ⟨j, rfl, hj, HO⟩ := hrel
    by_cases hlt : j < 16
    · have HJ := Lib.hid hj
      clear hj O4
      go_upto_if 60 with fail
      go_cut [13] (fun i13 wx => ∃ c : Int, i13 = .int .i64 c ∧ Hid (Own w.heap.size s [x] w wx))
      case first =>
        go_wp2
        all_goals (
          go_meet
          exact ⟨_, rfl, HO⟩)
      case rest =>
        obtain ⟨c, rfl, HO2⟩ := hcut
        go_upto_region 12 with fail
        go_cut [14, 15, 16] (fun i14 i15 i16 wx => ∃ a b d : Bool, i14 = .bool a ∧ i15 = .bool b ∧ i16 = .bool d ∧ Hid (Own w.heap.size s [x] w wx))
        case first =>
          go_wp2
          go_meet
          exact ⟨_, _, _, rfl, rfl, rfl, HO2⟩
        case rest =>
          obtain ⟨a, b, d, rfl, rfl, rfl, HO3⟩ := hcut
          clear HO HO2
          by_cases hk : (cls, np, fu, sw) = (c, a, b, d)
          · simp only [Prod.mk.injEq] at hk
            obtain ⟨rfl, rfl, rfl, rfl⟩ := hk
            go_wp2
            go_roundg (gk - 1)
            case measure => have := HJ.out; omega
            case rel => have := HJ.out; exact ⟨j + 1, by go_num, by omega, HO3⟩
          · have T := Lib.hid (take_none HO3.out c a b d (by simp) (fun y hy he => by
              simp only [List.mem_singleton] at hy
              rw [hy, XD.out] at he
              exact hk he))
            have hk := Lib.hid hk
            by_cases k1 : c = cls
            · by_cases k2 : a = np
              · by_cases k3 : b = fu
                · have k4 : ¬ d = sw := fun h => hk.out (by rw [k1, k2, k3, h])
                  have k4b : (d == sw) = false := by simpa using k4
                  subst k1 k2 k3
                  go_wp2_with (go_at_call 9; refine T.out.mono ?_; rintro e w5 ⟨rfl, O5⟩)
                  go_roundg (gk - 1)
                  case measure => have := HJ.out; omega
                  case rel => have := HJ.out; exact ⟨j + 1, by go_num, by omega, O5⟩
                · have k3b : (b == fu) = false := by simpa using k3
                  subst k1 k2
                  go_wp2_with (go_at_call 9; refine T.out.mono ?_; rintro e w5 ⟨rfl, O5⟩)
                  go_roundg (gk - 1)
                  case measure => have := HJ.out; omega
                  case rel => have := HJ.out; exact ⟨j + 1, by go_num, by omega, O5⟩
              · have k2b : (a == np) = false := by simpa using k2
                subst k1
                go_wp2_with (go_at_call 9; refine T.out.mono ?_; rintro e w5 ⟨rfl, O5⟩)
                go_roundg (gk - 1)
                case measure => have := HJ.out; omega
                case rel => have := HJ.out; exact ⟨j + 1, by go_num, by omega, O5⟩
            · have k1b : (c == cls) = false := by simpa using k1
              go_wp2_with (go_at_call 9; refine T.out.mono ?_; rintro e w5 ⟨rfl, O5⟩)
              go_roundg (gk - 1)
              case measure => have := HJ.out; omega
              case rel => have := HJ.out; exact ⟨j + 1, by go_num, by omega, O5⟩
    · have hx := XD.out
      clear XD hj
      subst hx
      cases sw with
      | true =>
        have L1 := least_one _ HO.out
        simp only [if_true, if_false, Bool.false_eq_true, Bool.not_true, Bool.not_false] at L1
        have L1 := Lib.hid L1
        go_wp2_with fail
        refine L1.out.mono ?_
        rintro e w5 ⟨rfl, O5⟩
        have P6 := Lib.hid (take_one O5.out cls np fu true (by simp) ⟨b1, 3, 8192, (cls, np, fu, true)⟩ (by simp) rfl (by simp))
        go_wp2_with fail
        refine P6.out.mono ?_
        rintro e w6 ⟨rfl, O6⟩
        have O6 := Lib.hid (show Own w.heap.size s [] w w6 by simpa using O6.out)
        have P7 := Lib.hid (remove_no O6.out 3 (by simp) (by simp))
        go_wp2_with fail
        refine P7.out.mono ?_
        rintro e w7 ⟨rfl, O7⟩
        have P8 := Lib.hid (put_fresh O7.out 3 8192 cls np fu true (by simp) (by decide) (by omega) (by simp) (by simp))
        go_wp2_with fail
        refine P8.out.mono ?_
        rintro e w8 ⟨b8, rfl, O8⟩
        go_wp2_with fail
        refine (awake_any w8).mono ?_
        rintro e w9 ⟨rfl, g9⟩
        go_wp2
        go_ret
        exact ⟨rfl, O8.out.done.trans g9 (fun _ _ h => h)⟩
      | false =>
        have L1 := least_one _ HO.out
        simp only [if_true, if_false, Bool.false_eq_true, Bool.not_true, Bool.not_false] at L1
        have L1 := Lib.hid L1
        go_wp2_with fail
        refine L1.out.mono ?_
        rintro e w5 ⟨rfl, O5⟩
        have P6 := Lib.hid (take_one O5.out cls np fu false (by simp) ⟨b1, 3, 8192, (cls, np, fu, false)⟩ (by simp) rfl (by simp))
        go_wp2_with fail
        refine P6.out.mono ?_
        rintro e w6 ⟨rfl, O6⟩
        have O6 := Lib.hid (show Own w.heap.size s [] w w6 by simpa using O6.out)
        have P7 := Lib.hid (remove_no O6.out 3 (by simp) (by simp))
        go_wp2_with fail
        refine P7.out.mono ?_
        rintro e w7 ⟨rfl, O7⟩
        have P8 := Lib.hid (put_fresh O7.out 3 8192 cls np fu false (by simp) (by decide) (by omega) (by simp) (by simp))
        go_wp2_with fail
        refine P8.out.mono ?_
        rintro e w8 ⟨b8, rfl, O8⟩
        go_wp2_with fail
        refine (awake_any w8).mono ?_
        rintro e w9 ⟨rfl, g9⟩
        go_wp2
        go_ret
        exact ⟨rfl, O8.out.done.trans g9 (fun _ _ h => h)⟩

theorem kinds_said (w : World) (cls : Int) (hw : (Lit.int .i64 cls).wf = true) (np fu sw : Bool) (other : Int) (_ : (Lit.int .i64 other).wf = true) : Calls Try.prog 3 #[.int .i64 cls, .bool np, .bool fu, .bool sw, .int .i64 other] w (Law w) :=
  kinds_any w cls hw np fu sw other
end Go.Proofs.Ytanaicjeheacoaa
