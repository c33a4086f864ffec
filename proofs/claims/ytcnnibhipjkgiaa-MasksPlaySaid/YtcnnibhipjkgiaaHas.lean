/-
  Masks that the call itself has made; awake.
-/
import Derived.Test.YtcnnibhipjkgiaaRead
namespace Go.Proofs.Ytcnnibhipjkgiaa
open Go.RowKit Go.Deep

/-- the call's own Masks in block m; the call's blocks A are none of theirs -/
structure Has (A : Nat → Prop) (w0 w : World) (m : Nat) (p : Nat → Bool) (k : Nat) : Prop where
  mine : ∃ F, Mine w m p k F ∧ ∀ b, F b → w0.heap.size ≤ b ∧ ¬ A b
  root : w0.heap.size ≤ m ∧ ¬ A m
  away : ∀ b, A b → w0.heap.size ≤ b ∧ b < w.heap.size
  fr : Fr (fun _ => False) w0 w

theorem Has.frA {A : Nat → Prop} {w0 w w' : World} {m k : Nat} {p : Nat → Bool} (h : Has A w0 w m p k) (hf : Fr A w w') : Has A w0 w' m p k := by
  obtain ⟨F, h1, h2⟩ := h.mine
  exact ⟨⟨F, h1.fr hf (fun b hb => (h2 b hb).2) h.root.2, h2⟩, h.root, fun b hb => ⟨(h.away b hb).1, Nat.lt_of_lt_of_le (h.away b hb).2 hf.size⟩, h.fr.trans hf (fun b hb ha => by have := (h.away b ha).1; omega)⟩
theorem Has.quiet {A : Nat → Prop} {w0 w w' : World} {m k : Nat} {p : Nat → Bool} (h : Has A w0 w m p k) (hf : Fr (fun _ => False) w w') : Has A w0 w' m p k := h.frA (hf.mono (fun _ _ x => x.elim))
theorem Has.lt {A : Nat → Prop} {w0 w : World} {m k : Nat} {p : Nat → Bool} (h : Has A w0 w m p k) : m < w.heap.size := by
  obtain ⟨F, h1, h2⟩ := h.mine
  exact h1.lt m (.inr rfl)
theorem Has.now {A : Nat → Prop} {w0 w w' : World} {m k k' : Nat} {p p' : Nat → Bool} (h : Has A w0 w m p k) (hn : ∀ F, Mine w m p k F → Now w m p' k' F w') : Has A w0 w' m p' k' := by
  obtain ⟨F, h1, h2⟩ := h.mine
  obtain ⟨F', h3, h4, h5⟩ := hn F h1
  refine ⟨⟨F', h3, fun b hb => ?_⟩, h.root, fun b hb => ⟨(h.away b hb).1, Nat.lt_of_lt_of_le (h.away b hb).2 h5.size⟩, h.fr.trans h5 (fun b hb e => by have := h.root.1; omega)⟩
  rcases h4 b hb with h6 | h6
  · exact h2 b h6
  · exact ⟨Nat.le_trans h.fr.size h6, fun ha => by have := (h.away b ha).2; omega⟩
/-- blocks that are not the Masks' are avoided from here on -/
theorem Has.avoid {A : Nat → Prop} {w0 w w' : World} {m k : Nat} {p : Nat → Bool} (h : Has (fun _ => False) w0 w m p k) (hf : Fr (fun _ => False) w w') (hA : ∀ b, A b → w.heap.size ≤ b ∧ b < w'.heap.size) : Has A w0 w' m p k := by
  obtain ⟨F, h1, h2⟩ := h.mine
  refine ⟨⟨F, h1.quiet hf, fun b hb => ⟨(h2 b hb).1, fun ha => ?_⟩⟩, ⟨h.root.1, fun ha => ?_⟩, fun b hb => ⟨Nat.le_trans h.fr.size (hA b hb).1, (hA b hb).2⟩, h.fr.trans hf (fun _ _ x => x)⟩
  · have := (hA b ha).1; have := h1.lt b (.inl hb); omega
  · have := (hA m ha).1; have := h.lt; omega

theorem new_h {w0 : World} (w : World) (hf : Fr (fun _ => False) w0 w) : Calls Try.prog 7 #[] w fun e w' => ∃ m, e = .returned (.pointer (some ⟨m, 0, none⟩)) ∧ Hid (Has (fun _ => False) w0 w' m (fun _ => false) 0) ∧ Hid (Fr (fun _ => False) w w') := by
  refine (new_any w).mono ?_
  rintro e w' ⟨m, rfl, h1, h2, h3⟩
  exact ⟨m, rfl, Lib.hid ⟨⟨fun _ => False, ⟨[], h2.out, Nat.le_refl _, fun _ => rfl⟩, fun _ x => x.elim⟩, ⟨Nat.le_trans hf.size h1, id⟩, fun _ x => x.elim, hf.trans h3.out (fun _ _ x => x)⟩, h3⟩

theorem write_h {A : Nat → Prop} {w0 w : World} {m k : Nat} {p : Nat → Bool} (h : Has A w0 w m p k) (addr bytes : Nat) (ha : addr ≤ 18446744073709551615) (hb : bytes ≤ 18446744073709551615) (hk : k ≤ 1000000)
    (wd : Int) (bs : List Bool) (a : Option Addr) (c : Nat) (n : Nat) (hn : n ≤ 18446744073709551615) (hrd : Rd w 1 (.slice a bs.length c) bs.length (bs.map .bool)) (cd : Int) (hcd : wcode addr bytes wd bs.length n = cd) :
    Calls Try.prog 8 #[.pointer (some ⟨m, 0, none⟩), .int .u64 addr, .int .u64 bytes, .agg #[.int .i64 wd, .slice a bs.length c], .int .u64 n] w fun e w' =>
      e = .returned (.int .i64 cd) ∧ Hid (Has A w0 w' m (if cd = 0 then over (addr / 8) ((addr + bytes) / 8) (fmOf bs n).at p else p) (k + 2)) ∧ Hid (Fr (fun b => b = m) w w') := by
  subst hcd
  obtain ⟨F, h1, h2⟩ := h.mine
  refine (write_any w h1 addr bytes ha hb hk wd bs a c n hn hrd).mono ?_
  rintro e w' ⟨rfl, hnow⟩
  obtain ⟨F', h3, h4, h5⟩ := hnow.out
  refine ⟨rfl, Lib.hid ⟨⟨F', h3, fun b hb => ?_⟩, h.root, fun b hb => ⟨(h.away b hb).1, Nat.lt_of_lt_of_le (h.away b hb).2 h5.size⟩, h.fr.trans h5 (fun b hb e => by have := h.root.1; omega)⟩, Lib.hid h5⟩
  rcases h4 b hb with h6 | h6
  · exact h2 b h6
  · exact ⟨Nat.le_trans h.fr.size h6, fun ha => by have := (h.away b ha).2; omega⟩

theorem clear_h {A : Nat → Prop} {w0 w : World} {m k : Nat} {p : Nat → Bool} (h : Has A w0 w m p k) (addr bytes : Nat) (ha : addr ≤ 18446744073709551615) (hb : bytes ≤ 18446744073709551615) (hk : k ≤ 1000000) (hR : Right addr bytes) :
    Calls Try.prog 15 #[.pointer (some ⟨m, 0, none⟩), .int .u64 addr, .int .u64 bytes] w fun e w' =>
      e = .returned (.int .i64 0) ∧ Hid (Has A w0 w' m (over (addr / 8) ((addr + bytes) / 8) (fun _ => false) p) (k + 2)) ∧ Hid (Fr (fun b => b = m) w w') := by
  obtain ⟨F, h1, h2⟩ := h.mine
  refine (clear_any w h1 addr bytes ha hb hk).mono ?_
  rintro e w' ⟨rfl, hnow⟩
  rw [if_pos hR] at hnow ⊢
  obtain ⟨F', h3, h4, h5⟩ := hnow.out
  refine ⟨rfl, Lib.hid ⟨⟨F', h3, fun b hb => ?_⟩, h.root, fun b hb => ⟨(h.away b hb).1, Nat.lt_of_lt_of_le (h.away b hb).2 h5.size⟩, h.fr.trans h5 (fun b hb e => by have := h.root.1; omega)⟩, Lib.hid h5⟩
  rcases h4 b hb with h6 | h6
  · exact h2 b h6
  · exact ⟨Nat.le_trans h.fr.size h6, fun ha => by have := (h.away b ha).2; omega⟩

theorem ptrs_h {A : Nat → Prop} {w0 w : World} {m k : Nat} {p : Nat → Bool} (h : Has A w0 w m p k) (addr bytes : Nat) (ha : addr ≤ 18446744073709551615) (hb : bytes ≤ 18446744073709551615) (hk : k ≤ 1000000) (hR : Right addr bytes) (q : Nat) (hq : cnt p (addr / 8) ((addr + bytes) / 8) = q) :
    Calls Try.prog 10 #[.pointer (some ⟨m, 0, none⟩), .int .u64 addr, .int .u64 bytes] w fun e w' =>
      e = .returned (.tuple #[.int .u64 (q : Nat), .int .i64 0]) ∧ Hid (Fr (fun _ => False) w w') := by
  obtain ⟨F, h1, h2⟩ := h.mine
  have := pointers_any w h1 addr bytes ha hb hk
  rw [if_pos hR, if_pos hR, hq] at this
  exact this

theorem read_h {A : Nat → Prop} {w0 w : World} {m k : Nat} {p : Nat → Bool} (h : Has A w0 w m p k) (addr bytes : Nat) (ha : addr ≤ 18446744073709551615) (hb : bytes ≤ 1048576) (hk : k ≤ 1000000) (hR : Right addr bytes) :
    Calls Try.prog 9 #[.pointer (some ⟨m, 0, none⟩), .int .u64 addr, .int .u64 bytes] w (Told w p (addr / 8) (bytes / 8)) := by
  obtain ⟨F, h1, h2⟩ := h.mine
  exact read_any w h1 addr bytes ha hb hk hR

theorem cnt_over (a b : Nat) (q p : Nat → Bool) (h : a ≤ b) : cnt (over a b q p) a b = cntTo q (b - a) := by
  have e : cnt (over a b q p) a b = cnt (fun z => q (z - a)) a b := cnt_congr (fun z h1 h2 => by unfold over; rw [if_pos ⟨h1, h2⟩])
  rw [e]
  have h2 := cnt_shift (fun z => q (z - a)) a 0 (b - a)
  rw [Nat.add_zero, show a + (b - a) = b by omega] at h2
  rw [← h2]
  have h3 : (fun x => q (a + x - a)) = q := by funext x; rw [Nat.add_sub_cancel_left]
  rw [h3]
  unfold cnt; simp [cntTo]

theorem eql_err (x y : Int) (W : World) : (binOp .eql 28 (.int .i64 x) (.int .i64 y)).run Try.prog W = .ok (.bool (x == y)) W := by
  simp [binOp, Op.intCmp]

set_option maxHeartbeats 2000000 in
theorem awake_any (w : World) : Calls Try.prog 11 #[] w fun e w' => e = .returned (.bool true) ∧ Hid (Fr (fun _ => False) w w') := by
  have hnew := Lib.hid (new_h w (Fr.refl _ w))
  have P := Lib.hid (fun (A : Nat → Prop) (wx : World) (m : Nat) (h : Has A w wx m (over 524288 524294 (fmOf [true, false] 2).at (fun _ => false)) 2) => ptrs_h h 4194304 48 (by omega) (by omega) (by omega) (by unfold Right; omega) 2 (by rw [show 4194304 / 8 = 524288 from rfl, show (4194304 + 48) / 8 = 524294 from rfl, cnt_over _ _ _ _ (by omega)]; rfl))
  have R := Lib.hid (fun (A : Nat → Prop) (wx : World) (m : Nat) (h : Has A w wx m (over 524288 524294 (fmOf [true, false] 2).at (fun _ => false)) 2) => read_h h 4194304 40 (by omega) (by omega) (by omega) (by unfold Right; omega))
  have W := Lib.hid (fun (wx : World) (m b : Nat) (h : Has (fun _ => False) w wx m (fun _ => false) 0) (hrd : Rd wx 1 (.slice (some ⟨b, 0, none⟩) 2 2) 2 [.bool true, .bool false]) =>
    write_h h 4194304 48 (by omega) (by omega) (by omega) 2 [true, false] (some ⟨b, 0, none⟩) 2 2 (by omega) hrd 0 (by unfold wcode Right; simp))
  go_enter Try.func11, Try.ntmps11
  go_wp2_with (first
    | (go_at_call 7; refine hnew.out.mono ?_; rintro e w1 ⟨m, rfl, hm1, hf1⟩)
    | (go_at_call 8; refine (W.out _ m w1.heap.size (hm1.out.quiet (((Fr.refl _ w1).alloc _).alloc _)) (Rd.new (vs := [.bool true, .bool false]) (t := 4) (by rw [heap_alloc_ne (by simp), heap_alloc, if_pos rfl]) 1 2 rfl)).mono ?_; rintro e w2 ⟨rfl, hm2, hf2⟩)
    | (go_at_call 9; refine (R.out _ w2 m hm2.out).mono ?_; rintro e w3 ⟨b, rfl, hb, hr3, hf3⟩)
    | (go_at_call 10; refine (P.out _ w3 m (hm2.out.quiet hf3.out)).mono ?_; rintro e w4 ⟨rfl, hf4⟩; have R4 := Lib.hid (hr3.out.of_block (hf4.out.same _ hr3.out.lt (fun x => x))); have y0 := R4.out.cell (i := 0) (by omega); have y1 := R4.out.cell (i := 1) (by omega); have y2 := R4.out.cell (i := 2) (by omega); have y3 := R4.out.cell (i := 3) (by omega); have y4 := R4.out.cell (i := 4) (by omega); rw [show over 524288 524294 (fmOf [true, false] 2).at (fun _ => false) (4194304 / 8 + 0) = true from rfl] at y0; rw [show over 524288 524294 (fmOf [true, false] 2).at (fun _ => false) (4194304 / 8 + 1) = false from rfl] at y1; rw [show over 524288 524294 (fmOf [true, false] 2).at (fun _ => false) (4194304 / 8 + 2) = true from rfl] at y2; rw [show over 524288 524294 (fmOf [true, false] 2).at (fun _ => false) (4194304 / 8 + 3) = false from rfl] at y3; rw [show over 524288 524294 (fmOf [true, false] 2).at (fun _ => false) (4194304 / 8 + 4) = false from rfl] at y4))
  go_ret
  exact ⟨rfl, Lib.hid ((hm2.out.fr.trans hf3.out (fun _ _ x => x)).trans hf4.out (fun _ _ x => x))⟩
end Go.Proofs.Ytcnnibhipjkgiaa
