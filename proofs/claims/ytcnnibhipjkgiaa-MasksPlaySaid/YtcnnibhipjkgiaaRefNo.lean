/-
  The reference: Write, where it refuses.
-/
import Derived.Test.YtcnnibhipjkgiaaRefPut
namespace Go.Proofs.Ytcnnibhipjkgiaa.Rf
open Go.RowKit Go.Deep

set_option maxHeartbeats 2000000 in
theorem write_no {r : Nat} (w : World) (addr bytes : Nat) (ha : addr ≤ 18446744073709551615) (hb : bytes ≤ 18446744073709551615)
    (wd : Int) (bs : List Bool) (a : Option Addr) (c : Nat) (n : Nat) (hn : n ≤ 18446744073709551615) (hcd : wcode addr bytes wd bs.length n ≠ 0) :
    Calls Try.prog 20 #[.pointer (some ⟨r, 0, none⟩), .int .u64 addr, .int .u64 bytes, .agg #[.int .i64 wd, .slice a bs.length c], .int .u64 n] w fun e w' => e = .returned (.int .i64 (wcode addr bytes wd bs.length n)) ∧ Hid (Fr (fun _ => False) w w') := by
  have hbox : Fr (fun _ => False) w (w.alloc (.cells #[.int .i64 wd, .slice a bs.length c] 27)) := (Fr.refl _ w).alloc _
  have hr := Lib.hid (right_any (w.alloc (.cells #[.int .i64 wd, .slice a bs.length c] 27)) addr bytes ha hb)
  by_cases hcode : ¬ Right addr bytes ∨ wd < 1 ∨ 65536 < wd ∨ ((bs.length : Nat) : Int) ≠ wd
  · have e1 : wcode addr bytes wd bs.length n = 1 := by unfold wcode; rw [if_pos hcode]
    rw [e1]
    have HB := Lib.hid hbox
    clear e1 hcd hbox
    by_cases hR : Right addr bytes
    · have hd : decide (Right addr bytes) = true := by simpa using hR
      rw [hd] at hr
      by_cases h1 : wd < 1
      · clear hR hd hcode
        go_enter Try.func20, Try.ntmps20
        go_wp2_with (first | (go_at_call 26; refine hr.out.mono ?_; rintro e w1 ⟨rfl, rfl⟩))
        go_ret
        exact ⟨rfl, Lib.hid HB.out⟩
      · by_cases h2 : 65536 < wd
        · clear hR hd hcode
          go_enter Try.func20, Try.ntmps20
          go_wp2_with (first | (go_at_call 26; refine hr.out.mono ?_; rintro e w1 ⟨rfl, rfl⟩))
          go_ret
          exact ⟨rfl, Lib.hid HB.out⟩
        · have h3 : (((bs.length : Nat) : Int) != wd) = true := by
            rcases hcode with h | h | h | h
            · exact absurd hR h
            · omega
            · omega
            · simpa using h
          clear hR hd hcode
          go_enter Try.func20, Try.ntmps20
          go_wp2_with (first | (go_at_call 26; refine hr.out.mono ?_; rintro e w1 ⟨rfl, rfl⟩))
          go_ret
          exact ⟨rfl, Lib.hid HB.out⟩
    · have hd : decide (Right addr bytes) = false := by simpa using hR
      rw [hd] at hr
      clear hR hd hcode
      go_enter Try.func20, Try.ntmps20
      go_wp2_with (first | (go_at_call 26; refine hr.out.mono ?_; rintro e w1 ⟨rfl, rfl⟩))
      go_ret
      exact ⟨rfl, Lib.hid HB.out⟩
  · have hR : Right addr bytes := by
      by_cases x : Right addr bytes
      · exact x
      · exact absurd (.inl x) hcode
    have hwd : wd = ((bs.length : Nat) : Int) := by omega
    subst hwd
    have hl : 0 < bs.length := by omega
    have hl2 : bs.length ≤ 65536 := by omega
    have hd : decide (Right addr bytes) = true := by simpa using hR
    rw [hd] at hr
    have h3 : ((((bs.length : Nat) : Int)) != ((bs.length : Nat) : Int)) = false := by simp
    have hR2 := right_words hR
    by_cases hlong : bytes / 8 / bs.length < n
    · have e1 : wcode addr bytes (bs.length : Nat) bs.length n = 2 := by unfold wcode; rw [if_neg hcode, if_pos hlong]
      rw [e1]
      have HB := Lib.hid hbox
      have hq : decide (((bytes : Nat) : Int) / 8 / ((bs.length : Nat) : Int) < ((n : Nat) : Int)) = true := by simpa using (by exact_mod_cast hlong : ((bytes : Nat) : Int) / 8 / ((bs.length : Nat) : Int) < ((n : Nat) : Int))
      clear e1 hcd hbox hcode hR hd
      go_enter Try.func20, Try.ntmps20
      go_wp2_with (first | (go_at_call 26; refine hr.out.mono ?_; rintro e w1 ⟨rfl, rfl⟩))
      go_ret
      exact ⟨rfl, Lib.hid HB.out⟩
    · exact absurd (by unfold wcode; rw [if_neg hcode, if_neg hlong]) hcd
end Go.Proofs.Ytcnnibhipjkgiaa.Rf
