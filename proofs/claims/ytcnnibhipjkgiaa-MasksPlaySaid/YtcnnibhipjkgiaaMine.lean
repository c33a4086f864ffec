/-
  Masks that one has: which words are pointers; Write and Clear.
-/
import Derived.Test.YtcnnibhipjkgiaaPut
namespace Go.Proofs.Ytcnnibhipjkgiaa
open Go.RowKit Go.Deep

/-- the Masks in block m, in the blocks F, know p; they have at most k pieces -/
def Mine (w : World) (m : Nat) (p : Nat → Bool) (k : Nat) (F : Nat → Prop) : Prop := ∃ L, Is w m L F ∧ L.length ≤ k ∧ ∀ z, sem (L.map (·.1)) z = p z

theorem Mine.fr {S F : Nat → Prop} {w w' : World} {m k : Nat} {p : Nat → Bool} (h : Mine w m p k F) (hf : Fr S w w') (hS : ∀ b, F b → ¬ S b) (hm : ¬ S m) : Mine w' m p k F := by
  obtain ⟨L, h1, h2⟩ := h
  exact ⟨L, h1.fr hf hS hm, h2⟩
theorem Mine.quiet {F : Nat → Prop} {w w' : World} {m k : Nat} {p : Nat → Bool} (h : Mine w m p k F) (hf : Fr (fun _ => False) w w') : Mine w' m p k F := h.fr hf (fun _ _ x => x) (fun x => x)
theorem Mine.lt {F : Nat → Prop} {w : World} {m k : Nat} {p : Nat → Bool} (h : Mine w m p k F) : ∀ b, F b ∨ b = m → b < w.heap.size := by
  obtain ⟨L, h1, h2⟩ := h
  rintro b (hb | rfl)
  · exact h1.lt b hb
  · obtain ⟨_, _, h3, _⟩ := h1.row; exact lt_blk h3

/-- what a call leaves: p' is known, in blocks that were known or are new; the root alone is written -/
def Now (w : World) (m : Nat) (p' : Nat → Bool) (k' : Nat) (F : Nat → Prop) (w' : World) : Prop :=
  ∃ F', Mine w' m p' k' F' ∧ (∀ b, F' b → F b ∨ w.heap.size ≤ b) ∧ Fr (fun b => b = m) w w'

theorem Now.of_quiet {F : Nat → Prop} {w w' : World} {m k : Nat} {p : Nat → Bool} (h : Mine w m p k F) (hf : Fr (fun _ => False) w w') : Now w m p (k + 2) F w' := by
  obtain ⟨L, h1, h2, h3⟩ := h
  exact ⟨F, ⟨L, h1.quiet hf, by omega, h3⟩, fun b hb => .inl hb, hf.mono (fun _ _ x => x.elim)⟩

/-- after a write over the words from a to b -/
def over (a b : Nat) (q p : Nat → Bool) (z : Nat) : Bool := if a ≤ z ∧ z < b then q (z - a) else p z

theorem Now.of_put {F G : Nat → Prop} {w w1 w' : World} {m k a b : Nat} {f : Fm} {p : Nat → Bool} {L : List PV} {e : Ending} (hk : L.length ≤ k) (hp : ∀ z, sem (L.map (·.1)) z = p z) (hf : Fr (fun _ => False) w w1) (hG : ∀ x, G x → w.heap.size ≤ x) (h : PutPost L F G m a b f w1 e w') : Now w m (over a b f.at p) (k + 2) F w' := by
  obtain ⟨_, L', F', h1, h2, h3, h4, h5⟩ := h
  refine ⟨F', ⟨L', h1.out, by omega, fun z => ?_⟩, fun x hx => ?_, ?_⟩
  · rw [h2.out z]; unfold over; rw [hp]
  · rcases h5.out x hx with h | h | h
    · exact .inl h
    · exact .inr (hG x h)
    · exact .inr (Nat.le_trans hf.size h)
  · exact (hf.mono (T := fun b => b = m) (fun _ _ x => x.elim)).trans h4.out (fun _ _ x => x)

theorem right_words {a n : Nat} (h : Right a n) : a / 8 < (a + n) / 8 ∧ (a + n) / 8 ≤ 35184372088832 ∧ a ≤ 281474976710656 ∧ n ≤ 1099511627776 := by
  obtain ⟨h1, h2, h3, h4, h5, h6⟩ := h
  omega

set_option maxHeartbeats 1000000 in
theorem clear_any {F : Nat → Prop} {m k : Nat} {p : Nat → Bool} (w : World) (h : Mine w m p k F) (addr bytes : Nat) (ha : addr ≤ 18446744073709551615) (hb : bytes ≤ 18446744073709551615) (hk : k ≤ 1000000) :
    Calls Try.prog 15 #[.pointer (some ⟨m, 0, none⟩), .int .u64 addr, .int .u64 bytes] w fun e w' =>
      e = .returned (.int .i64 (if Right addr bytes then 0 else 1)) ∧ Hid (Now w m (if Right addr bytes then over (addr / 8) ((addr + bytes) / 8) (fun _ => false) p else p) (k + 2) F w') := by
  obtain ⟨L, h1, h2, h3⟩ := id h
  have hr := Lib.hid (right_any w addr bytes ha hb)
  by_cases hR : Right addr bytes
  · obtain ⟨r1, r2, r3, r4⟩ := right_words hR
    have hd : decide (Right addr bytes) = true := by simpa using hR
    rw [hd] at hr
    rw [if_pos hR, if_pos hR]
    have hput := Lib.hid (put_any (G := fun _ => False) w h1 (addr / 8) ((addr + bytes) / 8) (.iface 65 (.agg #[])) .none rfl (fun _ x => x.elim) r1 r2 (by omega))
    clear hR hd h r1 r2
    have H3 := Lib.hid h3
    clear h3
    go_enter Try.func15, Try.ntmps15
    go_wp2_with (first | (go_at_call 16; refine hr.out.mono ?_; rintro e w1 ⟨rfl, rfl⟩) | (go_at_call 17; refine hput.out.mono ?_; rintro e w1 hp1; obtain rfl := hp1.1; have HP := Lib.hid hp1; clear hp1))
    go_ret
    exact ⟨rfl, Lib.hid (Now.of_put h2 H3.out (Fr.refl _ _) (fun _ x => x.elim) HP.out)⟩
  · have hd : decide (Right addr bytes) = false := by simpa using hR
    rw [hd] at hr
    rw [if_neg hR, if_neg hR]
    have H := Lib.hid h
    clear hR hd h h1 h2 h3
    go_enter Try.func15, Try.ntmps15
    go_wp2_with (first | (go_at_call 16; refine hr.out.mono ?_; rintro e w1 ⟨rfl, rfl⟩))
    go_ret
    exact ⟨rfl, Lib.hid (Now.of_quiet H.out (Fr.refl _ _))⟩

/-- what Write answers -/
def wcode (addr bytes : Nat) (wd : Int) (len n : Nat) : Int := if ¬ Right addr bytes ∨ wd < 1 ∨ 65536 < wd ∨ (len : Int) ≠ wd then 1 else if bytes / 8 / len < n then 2 else 0

def WPost (w : World) (m k : Nat) (p : Nat → Bool) (F : Nat → Prop) (addr bytes : Nat) (wd : Int) (bs : List Bool) (n : Nat) (e : Ending) (w' : World) : Prop :=
  e = .returned (.int .i64 (wcode addr bytes wd bs.length n)) ∧ Hid (Now w m (if wcode addr bytes wd bs.length n = 0 then over (addr / 8) ((addr + bytes) / 8) (fmOf bs n).at p else p) (k + 2) F w')

set_option maxHeartbeats 2000000 in
theorem write_any {F : Nat → Prop} {m k : Nat} {p : Nat → Bool} (w : World) (h : Mine w m p k F) (addr bytes : Nat) (ha : addr ≤ 18446744073709551615) (hb : bytes ≤ 18446744073709551615) (hk : k ≤ 1000000)
    (wd : Int) (bs : List Bool) (a : Option Addr) (c : Nat) (n : Nat) (hn : n ≤ 18446744073709551615) (hrd : Rd w 1 (.slice a bs.length c) bs.length (bs.map .bool)) :
    Calls Try.prog 8 #[.pointer (some ⟨m, 0, none⟩), .int .u64 addr, .int .u64 bytes, .agg #[.int .i64 wd, .slice a bs.length c], .int .u64 n] w (WPost w m k p F addr bytes wd bs n) := by
  have hbox : Fr (fun _ => False) w (w.alloc (.cells #[.int .i64 wd, .slice a bs.length c] 27)) := (Fr.refl _ w).alloc _
  have hr := Lib.hid (right_any (w.alloc (.cells #[.int .i64 wd, .slice a bs.length c] 27)) addr bytes ha hb)
  by_cases hcode : ¬ Right addr bytes ∨ wd < 1 ∨ 65536 < wd ∨ ((bs.length : Nat) : Int) ≠ wd
  · have e1 : wcode addr bytes wd bs.length n = 1 := by unfold wcode; rw [if_pos hcode]
    unfold WPost
    rw [e1]
    have H := Lib.hid h
    have HB := Lib.hid hbox
    clear e1 h hrd hbox
    by_cases hR : Right addr bytes
    · have hd : decide (Right addr bytes) = true := by simpa using hR
      rw [hd] at hr
      by_cases h1 : wd < 1
      · clear hR hd hcode
        go_enter Try.func8, Try.ntmps8
        go_wp2_with (first | (go_at_call 16; refine hr.out.mono ?_; rintro e w1 ⟨rfl, rfl⟩))
        go_ret
        exact ⟨rfl, Lib.hid (Now.of_quiet H.out HB.out)⟩
      · by_cases h2 : 65536 < wd
        · clear hR hd hcode
          go_enter Try.func8, Try.ntmps8
          go_wp2_with (first | (go_at_call 16; refine hr.out.mono ?_; rintro e w1 ⟨rfl, rfl⟩))
          go_ret
          exact ⟨rfl, Lib.hid (Now.of_quiet H.out HB.out)⟩
        · have h3 : (((bs.length : Nat) : Int) != wd) = true := by
            rcases hcode with h | h | h | h
            · exact absurd hR h
            · omega
            · omega
            · simpa using h
          clear hR hd hcode
          go_enter Try.func8, Try.ntmps8
          go_wp2_with (first | (go_at_call 16; refine hr.out.mono ?_; rintro e w1 ⟨rfl, rfl⟩))
          go_ret
          exact ⟨rfl, Lib.hid (Now.of_quiet H.out HB.out)⟩
    · have hd : decide (Right addr bytes) = false := by simpa using hR
      rw [hd] at hr
      clear hR hd hcode
      go_enter Try.func8, Try.ntmps8
      go_wp2_with (first | (go_at_call 16; refine hr.out.mono ?_; rintro e w1 ⟨rfl, rfl⟩))
      go_ret
      exact ⟨rfl, Lib.hid (Now.of_quiet H.out HB.out)⟩
  · have hR : Right addr bytes := by
      by_cases x : Right addr bytes
      · exact x
      · exact absurd (.inl x) hcode
    have hwd : wd = ((bs.length : Nat) : Int) := by omega
    subst hwd
    have hl : 0 < bs.length := by omega
    have hl2 : bs.length ≤ 65536 := by omega
    have hd : decide (Right addr bytes) = true := by simpa using hR
    rw [hd] at hr
    have h3 : ((((bs.length : Nat) : Int)) != ((bs.length : Nat) : Int)) = false := by simp
    have hR2 := right_words hR
    by_cases hlong : bytes / 8 / bs.length < n
    · have e1 : wcode addr bytes (bs.length : Nat) bs.length n = 2 := by unfold wcode; rw [if_neg hcode, if_pos hlong]
      unfold WPost
      rw [e1]
      have H := Lib.hid h
      have HB := Lib.hid hbox
      have hq : decide (((bytes : Nat) : Int) / 8 / ((bs.length : Nat) : Int) < ((n : Nat) : Int)) = true := by simpa using (by exact_mod_cast hlong : ((bytes : Nat) : Int) / 8 / ((bs.length : Nat) : Int) < ((n : Nat) : Int))
      clear e1 h hrd hbox hcode hR hd
      go_enter Try.func8, Try.ntmps8
      go_wp2_with (first | (go_at_call 16; refine hr.out.mono ?_; rintro e w1 ⟨rfl, rfl⟩))
      go_ret
      exact ⟨rfl, Lib.hid (Now.of_quiet H.out HB.out)⟩
    · have e1 : wcode addr bytes (bs.length : Nat) bs.length n = 0 := by unfold wcode; rw [if_neg hcode, if_neg hlong]
      unfold WPost
      rw [e1, if_pos rfl]
      have hq : decide (((bytes : Nat) : Int) / 8 / ((bs.length : Nat) : Int) < ((n : Nat) : Int)) = false := by simpa using (by exact_mod_cast (by omega : n ≤ bytes / 8 / bs.length) : ((n : Nat) : Int) ≤ ((bytes : Nat) : Int) / 8 / ((bs.length : Nat) : Int))
      have hnl : n * bs.length ≤ 137438953472 := by
        have h1 : n * bs.length ≤ bytes / 8 := (Nat.le_div_iff_mul_le hl).1 (by omega)
        omega
      have hof := Lib.hid (of_any (w.alloc (.cells #[.int .i64 (bs.length : Nat), .slice a bs.length c] 27)) bs a c (bs.length : Nat) n (hrd.fr hbox (fun _ _ x => x)) hl hl2 hnl)
      obtain ⟨L, h1, h2, h3'⟩ := h
      have hput : ∀ (w2 : World) (v : Value), FormAt (fun b => (w.alloc (.cells #[.int .i64 (bs.length : Nat), .slice a bs.length c] 27)).heap.size ≤ b ∧ b < w2.heap.size) w2 v (fmOf bs n) → Fr (fun _ => False) w w2 →
          Hid (Calls Try.prog 17 #[.pointer (some ⟨m, 0, none⟩), .int .u64 ((addr / 8 : Nat) : Nat), .int .u64 (((addr + bytes) / 8 : Nat) : Nat), v] w2 fun e w' => e = .returned (.tuple #[]) ∧ Hid (Now w m (over (addr / 8) ((addr + bytes) / 8) (fmOf bs n).at p) (k + 2) F w')) := fun w2 v hf hfr => Lib.hid (by
        refine (put_any w2 (h1.quiet hfr) (addr / 8) ((addr + bytes) / 8) v (fmOf bs n) hf (fun x hx => ⟨hx.2, fun e => ?_⟩) hR2.1 hR2.2.1 (by omega)).mono ?_
        · subst e
          have := (show Mine w x p k F from ⟨L, h1, h2, h3'⟩).lt x (.inr rfl)
          have h4 := hx.1
          simp at h4
          omega
        · intro e w' hp
          refine ⟨hp.1, Lib.hid (Now.of_put h2 h3' hfr (fun x hx => ?_) hp)⟩
          have h4 := hx.1
          simp at h4
          omega)
      have HP := Lib.hid hput
      have HB := Lib.hid hbox
      have r3 := hR2.2.2.1
      have r4 := hR2.2.2.2
      clear hput h1 h2 h3' hrd hbox hcode hR hd hR2 e1 hnl
      go_enter Try.func8, Try.ntmps8
      go_wp2_with (first | (go_at_call 16; refine hr.out.mono ?_; rintro e w1 ⟨rfl, rfl⟩) | (go_at_call 18; refine hof.out.mono ?_; rintro e w2 ⟨v, rfl, hf, hfr⟩) | (go_at_call 17; refine (HP.out w2 v hf.out (HB.out.trans hfr.out (fun _ _ x => x))).out.mono ?_; rintro e w3 ⟨rfl, hnow⟩))
      go_ret
      exact ⟨rfl, hnow⟩
end Go.Proofs.Ytcnnibhipjkgiaa
