/-
  act: read.
-/
import Derived.Test.YtcnnibhipjkgiaaAct
namespace Go.Proofs.Ytcnnibhipjkgiaa
open Go.RowKit Go.Deep

variable {w0 w : World} {m r k : Nat} {L : List Rf.WV}

theorem ne_errno (x : Int) (W : World) : (binOp .neq 28 (.int .i64 x) (.int .i64 x)).run Try.prog W = .ok (.bool false) W := by
  simp [binOp, Op.intCmp]

/-- a row that is turned up to q -/
def turnTo (xs : List Bool) (q j : Nat) : Value := .bool (if j < q then ! bit xs j else bit xs j)

theorem rd_nil (W : World) : Rd W 1 (.slice none 0 0) 0 (([] : List Bool).map .bool) := ⟨none, 0, rfl, Nat.le_refl _, rfl, (fun _ => rfl), fun j u hu => by simp at hu⟩

theorem range_bit (xs : List Bool) : (List.range xs.length).map (bit xs) = xs := by
  refine List.ext_getElem (by simp) (fun i h1 h2 => ?_)
  rw [List.getElem_map, List.getElem_range, bit_in (List.getElem?_eq_getElem h2)]

/-- two rows that are alike -/
theorem truths_same (w : World) (xs : List Bool) (n : Nat) (a b : Option Addr) (c d : Nat) (hl : xs.length = n) (ha : Rd w 1 (.slice a n c) n (xs.map .bool)) (hb : Rd w 1 (.slice b n d) n (xs.map .bool)) (hm : n ≤ 9223372036854775807) :
    Calls Try.prog 12 #[.slice a n c, .slice b n d] w fun e w' => e = .returned (.bool true) ∧ Hid (Still w w') := by
  subst hl
  have h := truths_any w xs xs a b c d ha hb hm hm
  rw [decide_eq_true rfl] at h
  exact h

set_option maxRecDepth 100000 in
set_option maxHeartbeats 4000000 in
theorem act_read_no (h : Duo (fun _ => False) w0 w m r (Rf.rsem (L.map (·.1))) L k) (hk : k ≤ 100000) (ad by_ : Nat) (ha : ad ≤ 18446744073709551615) (hb : by_ ≤ 18446744073709551615) (hR : ¬ Right ad by_ ∨ 1048576 < by_) (wd : Int) (bs : List Bool) (a : Option Addr) (c n : Nat) :
    Calls Try.prog 14 #[.pointer (some ⟨m, 0, none⟩), .pointer (some ⟨r, 0, none⟩), .agg #[.int .i64 3, .int .u64 (ad : Nat), .int .u64 (by_ : Nat), .int .i64 wd, .slice a bs.length c, .int .u64 (n : Nat)]] w (Acted w0 w m r k L) := by
  have H := Lib.hid h
  obtain ⟨E, hE⟩ : ∃ E : Int, (¬ Right ad by_ ∧ E = 1) ∨ (Right ad by_ ∧ 1048576 < by_ ∧ E = 2) := by
    by_cases x : Right ad by_
    · rcases hR with y | y
      · exact absurd x y
      · exact ⟨2, .inr ⟨x, y, rfl⟩⟩
    · exact ⟨1, .inl ⟨x, rfl⟩⟩
  have P1 := Lib.hid (fun (W : World) => show Calls Try.prog 9 #[.pointer (some ⟨m, 0, none⟩), .int .u64 ad, .int .u64 by_] W fun e w' => e = .returned (.tuple #[.slice none 0 0, .int .i64 E]) ∧ W = w' by
    rcases hE with ⟨x, rfl⟩ | ⟨x, y, rfl⟩
    · exact read_no m W ad by_ ha hb x
    · exact read_long m W ad by_ ha hb x y)
  have P2 := Lib.hid (fun (W : World) => Rf.read_no (r := r) W ad by_ ha hb E hE)
  have T0 := Lib.hid (fun (W : World) => truths_same W [] 0 none none 0 0 rfl (rd_nil W) (rd_nil W) (by omega))
  have hbx : (w.alloc (actBox ⟨3, ad, by_, wd, bs, a, c, n⟩)).heap[w.heap.size]? = some (actBox ⟨3, ad, by_, wd, bs, a, c, n⟩) := by rw [heap_alloc, if_pos rfl]
  have x1 := cell_blk hbx 1
  have x2 := cell_blk hbx 2
  have heq := ne_errno E
  clear h hE ha hb hbx hR
  go_enter Try.func14, Try.ntmps14
  go_wp2_with (first
    | (go_at_call 22; (with_reducible refine (P2.out _).mono ?_); rintro e w' ⟨rfl, rfl⟩)
    | (go_at_call 9; (with_reducible refine (P1.out _).mono ?_); rintro e w' ⟨rfl, rfl⟩)
    | (have := hs1; go_at_call 12; (with_reducible refine (T0.out _).mono ?_); rintro e w2 ⟨rfl, hs2⟩)
    | (go_at_call 12; (with_reducible refine (T0.out _).mono ?_); rintro e w1 ⟨rfl, hs1⟩))
  have HF := Lib.hid ((((Fr.refl (fun _ => False) w).alloc (actBox ⟨3, ad, by_, wd, bs, a, c, n⟩)).trans hs1.out.fr (fun _ _ x => x)).trans hs2.out.fr (fun _ _ x => x))
  clear hs1 hs2 x1 x2
  go_loopg [15] 0 (fun kk i wr => i = .int .i64 0 ∧ Hid (w2 = wr))
  case atStart => exact ⟨rfl, Lib.hid rfl⟩
  case round =>
    obtain ⟨rfl, HW⟩ := hrel
    have hw := HW.out
    subst hw
    go_wp2_with (first
      | (go_at_call 12; (with_reducible refine (T0.out _).mono ?_); rintro e w3 ⟨rfl, hs3⟩))
    go_ret
    exact ⟨rfl, Lib.hid ⟨L, (H.out.quiet (HF.out.trans hs3.out.fr (fun _ _ x => x))).le (by omega), by omega⟩⟩

set_option maxRecDepth 100000 in
set_option maxHeartbeats 4000000 in
theorem act_read (h : Duo (fun _ => False) w0 w m r (Rf.rsem (L.map (·.1))) L k) (hk : k ≤ 100000) (ad by_ : Nat) (ha : ad ≤ 18446744073709551615) (hb : by_ ≤ 1048576) (hR : Right ad by_) (wd : Int) (bs : List Bool) (a : Option Addr) (c n : Nat) :
    Calls Try.prog 14 #[.pointer (some ⟨m, 0, none⟩), .pointer (some ⟨r, 0, none⟩), .agg #[.int .i64 3, .int .u64 (ad : Nat), .int .u64 (by_ : Nat), .int .i64 wd, .slice a bs.length c, .int .u64 (n : Nat)]] w (Acted w0 w m r k L) := by
  have H := Lib.hid h
  obtain ⟨N, hN⟩ : ∃ N, N = by_ / 8 := ⟨_, rfl⟩
  obtain ⟨p, hp⟩ : ∃ p : Nat → Bool, p = fun j => Rf.rsem (L.map (·.1)) (ad / 8 + j) := ⟨_, rfl⟩
  obtain ⟨xs, hxs⟩ : ∃ xs, xs = (List.range N).map p := ⟨_, rfl⟩
  have hxl : xs.length = N := by rw [hxs]; simp
  have hN2 : N ≤ 1048576 := by omega
  have P1 := Lib.hid (fun (W : World) (hW : Fr (fun _ => False) w W) => show Calls Try.prog 9 #[.pointer (some ⟨m, 0, none⟩), .int .u64 ad, .int .u64 by_] W fun e W' => ∃ b, e = .returned (.tuple #[.slice (some ⟨b, 0, none⟩) N N, .int .i64 0]) ∧ Hid (W.heap.size ≤ b ∧ W'.rowIs b 4 N (fun j => .bool (bit xs j)) ∧ Fr (fun _ => False) W W') by
    refine (duo_read (h.quiet hW) ad by_ ha hb (by omega) hR).mono ?_
    rintro e W' ⟨b, rfl, h1, h2, h3⟩
    refine ⟨b, by rw [hN], Lib.hid ⟨h1, ?_, h3.out⟩⟩
    have h4 := h2.out
    rw [← hN] at h4
    exact h4.congr (fun j hj => by
      have : xs[j]? = some (p j) := by rw [hxs, List.getElem?_map, List.getElem?_range hj]; rfl
      rw [bit_in this, hp]))
  have P2 := Lib.hid (fun (W : World) (hW : Fr (fun _ => False) w W) => show Calls Try.prog 22 #[.pointer (some ⟨r, 0, none⟩), .int .u64 ad, .int .u64 by_] W fun e W' => ∃ a c, e = .returned (.tuple #[.slice a N c, .int .i64 0]) ∧ Hid (W'.ownsRow W.heap.size 4 1 (.slice a N c) N (xs.map .bool) ∧ Fr (fun _ => False) W W') by
    refine (duo_read_ref (h.quiet hW) ad by_ ha hb hR).mono ?_
    rintro e W' ⟨a, c, rfl, h1, h2⟩
    refine ⟨a, c, by rw [hN], Lib.hid ⟨?_, h2.out⟩⟩
    have h4 := h1.out
    rw [← hN] at h4
    rw [hxs, hp]
    exact h4)
  have TA := Lib.hid (fun (W : World) (a b : Option Addr) (c d : Nat) ha hb => truths_same W xs N a b c d hxl ha hb (by omega))
  have hbx : (w.alloc (actBox ⟨3, ad, by_, wd, bs, a, c, n⟩)).heap[w.heap.size]? = some (actBox ⟨3, ad, by_, wd, bs, a, c, n⟩) := by rw [heap_alloc, if_pos rfl]
  have x1 := cell_blk hbx 1
  have x2 := cell_blk hbx 2
  have heq := ne_errno 0
  have hf0 : Hid (Fr (fun _ => False) w (w.alloc (actBox ⟨3, ad, by_, wd, bs, a, c, n⟩))) := Lib.hid ((Fr.refl _ w).alloc _)
  have HX := Lib.hid hxl
  clear h hN hp hxs hxl ha hb hR hbx
  go_enter Try.func14, Try.ntmps14
  go_wp2_with (first
    | (go_at_call 22; (with_reducible refine (P2.out _ hf2.out).mono ?_); rintro e w3 ⟨ya, yc, rfl, hy⟩)
    | (have := hf1; go_at_call 9; (with_reducible refine (P1.out _ hf1.out).mono ?_); rintro e w2 ⟨Z, rfl, hz⟩; have hf2 := Lib.hid (hf1.out.trans hz.out.2.2 (fun _ _ x => x)); have y1 := cell_through hz.out.2.2 z1 (fun x => x); have y2 := cell_through hz.out.2.2 z2 (fun x => x))
    | (go_at_call 9; (with_reducible refine (P1.out _ hf0.out).mono ?_); rintro e w1 ⟨X, rfl, hx⟩; have hf1 := Lib.hid (hf0.out.trans hx.out.2.2 (fun _ _ x => x)); have z1 := cell_through hx.out.2.2 x1 (fun x => x); have z2 := cell_through hx.out.2.2 x2 (fun x => x)))
  have HW3 := Lib.hid (hf2.out.trans hy.out.2 (fun _ _ x => x))
  have HROW : Hid (w3.rowIs X 4 N (fun j => .bool (bit xs j))) := Lib.hid (by
    have h1 := hx.out.2.1
    have h2 := h1.of_block (hz.out.2.2.same _ h1.lt (fun x => x))
    exact h2.of_block (hy.out.2.same _ h2.lt (fun x => x)))
  have HROZ : Hid (w3.rowIs Z 4 N (fun j => .bool (bit xs j))) := Lib.hid (by
    have h1 := hz.out.2.1
    exact h1.of_block (hy.out.2.same _ h1.lt (fun x => x)))
  have HRX : Hid (Rd w3 1 (.slice (some ⟨X, 0, none⟩) N N) N (xs.map .bool)) := Lib.hid (by
    have h1 := rd_of_row HROW.out
    rw [← HX.out, range_bit] at h1
    rw [← HX.out]; exact h1)
  have HRZ : Hid (Rd w3 1 (.slice (some ⟨Z, 0, none⟩) N N) N (xs.map .bool)) := Lib.hid (by
    have h1 := rd_of_row HROZ.out
    rw [← HX.out, range_bit] at h1
    rw [← HX.out]; exact h1)
  have HRY : Hid (Rd w3 1 (.slice ya N yc) N (xs.map .bool)) := Lib.hid (ownsRow_rd hy.out.1)
  have HXZ : Hid (X < Z ∧ ∀ ad n' c', Value.slice ya N yc = .slice (some ad) n' c' → X < ad.block) := Lib.hid ⟨by
      have h1 := hx.out.2.1.lt; have h2 := hz.out.1; omega, fun ad n' c' e => by
      have h1 := hx.out.2.1.lt
      have h2 := hf2.out.size
      have h3 := hz.out.2.2.size
      rcases hy.out.1.2 with ⟨h5, _⟩ | ⟨g', cap, cur, hv, hg0, hh, r5⟩
      · rw [h5] at e; simp at e
      · rw [hv] at e
        simp only [Value.slice.injEq, Option.some.injEq] at e
        obtain ⟨rfl, _, _⟩ := e
        simp only; omega⟩
  have HXW : Hid (w.heap.size ≤ X ∧ X < w3.heap.size) := Lib.hid ⟨by have := hf0.out.size; have := hx.out.1; omega, HROW.out.lt⟩
  clear hx hz hy y1 y2 z1 z2 x1 x2 hf0 hf1 hf2
  go_wp2_with (first
    | (have := hs4; go_at_call 12; (with_reducible refine (TA.out _ _ _ _ _ (HRZ.out.fr hs4.out.fr (fun _ _ x => x)) (HRY.out.fr hs4.out.fr (fun _ _ x => x))).mono ?_); rintro e w5 ⟨rfl, hs5⟩)
    | (go_at_call 12; (with_reducible refine (TA.out _ _ _ _ _ HRX.out HRY.out).mono ?_); rintro e w4 ⟨rfl, hs4⟩))
  have HF := Lib.hid (hs4.out.fr.trans hs5.out.fr (fun _ _ x => x))
  have HROW5 : Hid (w5.rowIs X 4 N (fun j => .bool (bit xs j))) := Lib.hid (HROW.out.of_block (HF.out.same _ HROW.out.lt (fun x => x)))
  clear hs4 hs5 HROW HROZ HRX
  go_loopg [15] N (fun kk i wr => ∃ q : Nat, i = .int .i64 q ∧ Hid (q ≤ N ∧ wr.rowIs X 4 N (turnTo xs q) ∧ Fr (fun b => b = X) w5 wr ∧ N - q ≤ kk))
  case atStart => exact ⟨0, rfl, Lib.hid ⟨Nat.zero_le _, HROW5.out.congr (fun j hj => by simp [turnTo]), Fr.refl _ _, Nat.le_refl _⟩⟩
  case round =>
    obtain ⟨q, rfl, HQ⟩ := hrel
    by_cases hlt : q < N
    · have hc := HQ.out.2.1.cell hlt
      simp only [turnTo, Nat.lt_irrefl, if_false] at hc
      have hfz := HQ.out.2.1.frozen q
      go_wp2
      go_roundg (N - (q + 1))
      case measure => have := HQ.out.2.2.2; omega
      case rel =>
        refine ⟨q + 1, by go_num, Lib.hid ⟨hlt, ?_, (HQ.out.2.2.1).setCell _ _ (.inl rfl), Nat.le_refl _⟩⟩
        refine (HQ.out.2.1.set q _).congr (fun j hj => ?_)
        unfold turnTo
        by_cases e : j = q
        · rw [if_pos e, e, if_pos (by omega)]
        · rw [if_neg e]
          by_cases e2 : j < q
          · rw [if_pos e2, if_pos (by omega)]
          · rw [if_neg e2, if_neg (by omega)]
    · have HG : Hid (Fr (fun b => b = X) w3 wr) := Lib.hid ((HF.out.mono (fun _ _ x => x.elim)).trans HQ.out.2.2.1 (fun _ _ x => x))
      go_wp2_with (first
        | (go_at_call 12; (with_reducible refine (TA.out _ _ _ _ _ (HRZ.out.fr HG.out (fun ad ⟨c9, e9⟩ hs => by simp at e9; rw [← e9.1] at hs; have := HXZ.out.1; simp at hs; omega)) (HRY.out.fr HG.out (fun ad ⟨c9, e9⟩ hs => by have := HXZ.out.2 ad N c9 e9; omega))).mono ?_); rintro e w6 ⟨rfl, hs6⟩))
      go_ret
      refine ⟨rfl, Lib.hid ⟨L, ?_, by omega⟩⟩
      have h1 := H.out.avoid (B := fun b => b = X) HW3.out (fun b hb => .inr (by have := HXW.out; omega))
      exact (((h1.frA HG.out).quiet hs6.out.fr).forget (fun _ (x : False) => x.elim)).le (by omega)
end Go.Proofs.Ytcnnibhipjkgiaa
