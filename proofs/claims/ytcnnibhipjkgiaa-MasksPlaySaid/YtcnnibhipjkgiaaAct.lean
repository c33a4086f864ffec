/-
  act: clear, pointers, and what is no act.
-/
import Derived.Test.YtcnnibhipjkgiaaDuo
namespace Go.Proofs.Ytcnnibhipjkgiaa
open Go.RowKit Go.Deep

theorem Duo.le {A : Nat → Prop} {w0 w : World} {m r k k' : Nat} {p : Nat → Bool} {L : List Rf.WV} (h : Duo A w0 w m r p L k) (hk : k ≤ k') : Duo A w0 w m r p L k' := by
  obtain ⟨F, G, ⟨Q, h1, h2, h3⟩, h4⟩ := h.two
  exact ⟨⟨F, G, ⟨Q, h1, Nat.le_trans h2 hk, h3⟩, h4⟩, h.root, h.away, h.fr⟩

theorem eql_errno (x : Int) (W : World) : (binOp .eql 28 (.int .i64 x) (.int .i64 x)).run Try.prog W = .ok (.bool true) W := by
  rw [eql_err]; simp

/-- how an act ends -/
def Acted (w0 w : World) (m r k : Nat) (L : List Rf.WV) (e : Ending) (w' : World) : Prop :=
  e = .returned (.bool true) ∧ Hid (∃ L' : List Rf.WV, Duo (fun _ => False) w0 w' m r (Rf.rsem (L'.map (·.1))) L' (k + 2) ∧ L'.length ≤ L.length + 1)

theorem rsem_put (L : List Rf.WV) (x : Rf.Wt) (v : Value) : Rf.rsem ((L ++ [(x, v)]).map (·.1)) = over (x.addr / 8) ((x.addr + x.bytes) / 8) (fmOf x.bs x.n).at (Rf.rsem (L.map (·.1))) := by
  rw [List.map_append]; exact Rf.rsem_snoc _ _

/-- the box of an act -/
abbrev actBox (v : Av) : Obj := .cells #[.int .i64 v.what, .int .u64 (v.addr : Nat), .int .u64 (v.bytes : Nat), .int .i64 v.words, .slice v.a v.bs.length v.c, .int .u64 (v.n : Nat)] 48

variable {w0 w : World} {m r k : Nat} {L : List Rf.WV}

set_option maxRecDepth 100000 in
set_option maxHeartbeats 4000000 in
theorem act_other (h : Duo (fun _ => False) w0 w m r (Rf.rsem (L.map (·.1))) L k) (what : Int) (ad by_ : Nat) (wd : Int) (bs : List Bool) (a : Option Addr) (c n : Nat) (h1 : what ≠ 1) (h2 : what ≠ 2) (h3 : what ≠ 3) (h4 : what ≠ 4) :
    Calls Try.prog 14 #[.pointer (some ⟨m, 0, none⟩), .pointer (some ⟨r, 0, none⟩), .agg #[.int .i64 what, .int .u64 (ad : Nat), .int .u64 (by_ : Nat), .int .i64 wd, .slice a bs.length c, .int .u64 (n : Nat)]] w (Acted w0 w m r k L) := by
  have H := Lib.hid h
  have g1 : (what == 1) = false := by simpa using h1
  have g2 : (what == 2) = false := by simpa using h2
  have g3 : (what == 3) = false := by simpa using h3
  have g4 : (what == 4) = false := by simpa using h4
  clear h
  go_enter Try.func14, Try.ntmps14
  go_wp2_with fail
  go_ret
  exact ⟨rfl, Lib.hid ⟨L, (H.out.quiet ((Fr.refl _ _).alloc _)).le (by omega), by omega⟩⟩

set_option maxRecDepth 100000 in
set_option maxHeartbeats 4000000 in
theorem act_ptrs (h : Duo (fun _ => False) w0 w m r (Rf.rsem (L.map (·.1))) L k) (hk : k ≤ 100000) (ad by_ : Nat) (ha : ad ≤ 18446744073709551615) (hb : by_ ≤ 18446744073709551615) (wd : Int) (bs : List Bool) (a : Option Addr) (c n : Nat) :
    Calls Try.prog 14 #[.pointer (some ⟨m, 0, none⟩), .pointer (some ⟨r, 0, none⟩), .agg #[.int .i64 4, .int .u64 (ad : Nat), .int .u64 (by_ : Nat), .int .i64 wd, .slice a bs.length c, .int .u64 (n : Nat)]] w (Acted w0 w m r k L) := by
  have H := Lib.hid h
  have P1 := Lib.hid (fun (W : World) (hW : Fr (fun _ => False) w W) => duo_ptrs (h.quiet hW) ad by_ ha hb (by omega))
  have P2 := Lib.hid (fun (W : World) (hW : Fr (fun _ => False) w W) => duo_ptrs_ref (h.quiet hW) ad by_ ha hb)
  obtain ⟨N, hN⟩ : ∃ N : Nat, N = (if Right ad by_ then cnt (Rf.rsem (L.map (·.1))) (ad / 8) ((ad + by_) / 8) else 0) := ⟨_, rfl⟩
  obtain ⟨E, hE⟩ : ∃ E : Int, E = (if Right ad by_ then 0 else 1) := ⟨_, rfl⟩
  rw [← hN, ← hE] at P1 P2
  have hbx : (w.alloc (actBox ⟨4, ad, by_, wd, bs, a, c, n⟩)).heap[w.heap.size]? = some (actBox ⟨4, ad, by_, wd, bs, a, c, n⟩) := by rw [heap_alloc, if_pos rfl]
  have x1 := Lib.hid (cell_blk hbx 1)
  have x2 := Lib.hid (cell_blk hbx 2)
  have heq := eql_errno E
  clear h hN hE ha hb hbx
  go_enter Try.func14, Try.ntmps14
  go_wp2_with (first
    | (go_at_call 23; (with_reducible refine (P2.out _ (((Fr.refl _ w).alloc _).trans hf1.out (fun _ _ x => x))).mono ?_); rintro e w2 ⟨rfl, hf2⟩)
    | (go_at_call 10; (with_reducible refine (P1.out _ ((Fr.refl _ w).alloc _)).mono ?_); rintro e w1 ⟨rfl, hf1⟩; have y1 := cell_through hf1.out x1.out (fun x => x); have y2 := cell_through hf1.out x2.out (fun x => x)))
  go_ret
  exact ⟨rfl, Lib.hid ⟨L, (H.out.quiet ((((Fr.refl _ _).alloc _).trans hf1.out (fun _ _ x => x)).trans hf2.out (fun _ _ x => x))).le (by omega), by omega⟩⟩

/-- the call's own blocks -/
theorem far_cell {A : Nat → Prop} {w w' : World} {b i : Nat} {v : Value} (hf : Fr (Far A w0) w w') (h : w.cell? ⟨b, i, none⟩ = some v) (hb : A b ∨ b < w0.heap.size) : w'.cell? ⟨b, i, none⟩ = some v :=
  cell_through hf h (fun x => by
    rcases hb with h1 | h1
    · exact x.2 h1
    · have := x.1; omega)

theorem duo_clear_ref {A : Nat → Prop} {p : Nat → Bool} (h : Duo A w0 w m r p L k) (addr bytes : Nat) (hR : Right addr bytes) (hL : L.length ≤ 100000) :
    Calls Try.prog 21 #[.pointer (some ⟨r, 0, none⟩), .int .u64 addr, .int .u64 bytes] w (EndsR A w0 w m r p L k ⟨addr, bytes, [false], 0⟩) := by
  obtain ⟨F, G, h1, h2, h3, h4⟩ := id h.two
  refine (Rf.clear_ok w h2 addr bytes hR hL).mono ?_
  rintro e w' ⟨rfl, hput⟩
  obtain ⟨⟨v, d1⟩, d2⟩ := h.put h1 h2 h3 h4 hput.out
  exact ⟨v, rfl, Lib.hid d1, Lib.hid d2⟩

set_option maxRecDepth 100000 in
set_option maxHeartbeats 4000000 in
theorem act_clear (h : Duo (fun _ => False) w0 w m r (Rf.rsem (L.map (·.1))) L k) (hk : k ≤ 100000) (hL : L.length ≤ 10000) (ad by_ : Nat) (ha : ad ≤ 18446744073709551615) (hb : by_ ≤ 18446744073709551615) (wd : Int) (bs : List Bool) (a : Option Addr) (c n : Nat) :
    Calls Try.prog 14 #[.pointer (some ⟨m, 0, none⟩), .pointer (some ⟨r, 0, none⟩), .agg #[.int .i64 2, .int .u64 (ad : Nat), .int .u64 (by_ : Nat), .int .i64 wd, .slice a bs.length c, .int .u64 (n : Nat)]] w (Acted w0 w m r k L) := by
  have H := Lib.hid h
  by_cases hR : Right ad by_
  · have MC := Lib.hid (fun (A : Nat → Prop) (W : World) (p : Nat → Bool) (L : List Rf.WV) (k : Nat) (h : Duo A w0 W m r p L k) (hk : k ≤ 1000000) => duo_clear h ad by_ ha hb hk)
    simp only [if_pos hR] at MC
    have RC := Lib.hid (fun (A : Nat → Prop) (W : World) (p : Nat → Bool) (L : List Rf.WV) (k : Nat) (h : Duo A w0 W m r p L k) (hL : L.length ≤ 100000) => duo_clear_ref h ad by_ hR hL)
    have HL := Lib.hid hL
    have HK := Lib.hid (show k ≤ 1000000 by omega)
    clear h hR hL
    go_enter Try.func14, Try.ntmps14
    go_wp2_with fail
    obtain ⟨W, hW⟩ : ∃ W, W = w.alloc (actBox ⟨2, ad, by_, wd, bs, a, c, n⟩) := ⟨_, rfl⟩
    rw [show w.alloc (.cells #[.int .i64 2, .int .u64 (ad : Nat), .int .u64 (by_ : Nat), .int .i64 wd, .slice a bs.length c, .int .u64 (n : Nat)] 48) = W from hW.symm]
    obtain ⟨X, hX⟩ : ∃ X, X = w.heap.size := ⟨_, rfl⟩
    rw [← hX]
    have hXb : W.heap[X]? = some (actBox ⟨2, ad, by_, wd, bs, a, c, n⟩) := by rw [hW, hX, heap_alloc, if_pos rfl]
    have hD1 : Hid (Duo (fun b => b = X) w0 W.drew m r (Rf.rsem (L.map (·.1))) L k) := Lib.hid (by
      have h0 : Fr (fun _ => False) w W.drew := by rw [hW]; exact ((Fr.refl _ _).alloc _).drew
      refine H.out.avoid h0 (fun b e => .inr ?_)
      have hsz : W.drew.heap.size = w.heap.size + 1 := by show W.heap.size = _; rw [hW, size_alloc]
      rw [e, hX, hsz]; omega)
    have x1 := cell_blk hXb 1
    have x2 := cell_blk hXb 2
    have KP := Lib.hid (fun (W' : World) (hf : Fr (Far (fun b => b = X) w0) W.drew W') => (⟨far_cell hf x1 (.inl rfl), far_cell hf x2 (.inl rfl)⟩ : W'.cell? ⟨X, 1, none⟩ = some (.int .u64 (ad : Nat)) ∧ W'.cell? ⟨X, 2, none⟩ = some (.int .u64 (by_ : Nat))))
    clear hW hX hXb
    go_region_held3 (fun w' => w'.cell? ⟨X, 1, none⟩ = some (.int .u64 (ad : Nat)) ∧ w'.cell? ⟨X, 2, none⟩ = some (.int .u64 (by_ : Nat))) (first | go_keep | exact KP.out _ hF2.out | exact KP.out _ (hF2.out.trans hF3.out (fun _ _ x => x))) ((first
      | (go_at_call 15; (with_reducible refine (MC.out _ _ _ _ _ hD2.out HK.out).mono ?_); rintro e w3 ⟨rfl, hD3, hF3⟩)
      | (go_at_call 21; (with_reducible refine (RC.out _ _ _ _ _ hD2.out (by have := HL.out; omega)).mono ?_); rintro e w3 ⟨v2, rfl, hD3, hF3⟩)
      | (go_at_call 15; (with_reducible refine (MC.out _ _ _ _ _ hD1.out HK.out).mono ?_); rintro e w2 ⟨rfl, hD2, hF2⟩)
      | (go_at_call 21; (with_reducible refine (RC.out _ _ _ _ _ hD1.out (by have := HL.out; omega)).mono ?_); rintro e w2 ⟨v2, rfl, hD2, hF2⟩)))
    all_goals
      go_wp2_with fail
      go_ret
      refine ⟨rfl, Lib.hid ⟨L ++ [(⟨ad, by_, [false], 0⟩, v2)], ?_, by simp⟩⟩
      rw [rsem_put]
      exact hD3.out.forget (fun _ (x : False) => x.elim)
  · have MC := Lib.hid (fun (A : Nat → Prop) (W : World) (p : Nat → Bool) (L : List Rf.WV) (k : Nat) (h : Duo A w0 W m r p L k) (hk : k ≤ 1000000) => duo_clear h ad by_ ha hb hk)
    simp only [if_neg hR] at MC
    have RC := Lib.hid (fun (W : World) => Rf.clear_no (r := r) W ad by_ ha hb hR)
    have HK := Lib.hid (show k ≤ 1000000 by omega)
    clear h hR hL
    go_enter Try.func14, Try.ntmps14
    go_wp2_with fail
    obtain ⟨W, hW⟩ : ∃ W, W = w.alloc (actBox ⟨2, ad, by_, wd, bs, a, c, n⟩) := ⟨_, rfl⟩
    rw [show w.alloc (.cells #[.int .i64 2, .int .u64 (ad : Nat), .int .u64 (by_ : Nat), .int .i64 wd, .slice a bs.length c, .int .u64 (n : Nat)] 48) = W from hW.symm]
    obtain ⟨X, hX⟩ : ∃ X, X = w.heap.size := ⟨_, rfl⟩
    rw [← hX]
    have hXb : W.heap[X]? = some (actBox ⟨2, ad, by_, wd, bs, a, c, n⟩) := by rw [hW, hX, heap_alloc, if_pos rfl]
    have hD1 : Hid (Duo (fun b => b = X) w0 W.drew m r (Rf.rsem (L.map (·.1))) L k) := Lib.hid (by
      have h0 : Fr (fun _ => False) w W.drew := by rw [hW]; exact ((Fr.refl _ _).alloc _).drew
      refine H.out.avoid h0 (fun b e => .inr ?_)
      have hsz : W.drew.heap.size = w.heap.size + 1 := by show W.heap.size = _; rw [hW, size_alloc]
      rw [e, hX, hsz]; omega)
    have x1 := cell_blk hXb 1
    have x2 := cell_blk hXb 2
    have KP := Lib.hid (fun (W' : World) (hf : Fr (Far (fun b => b = X) w0) W.drew W') => (⟨far_cell hf x1 (.inl rfl), far_cell hf x2 (.inl rfl)⟩ : W'.cell? ⟨X, 1, none⟩ = some (.int .u64 (ad : Nat)) ∧ W'.cell? ⟨X, 2, none⟩ = some (.int .u64 (by_ : Nat))))
    clear hW hX hXb
    go_region_held3 (fun w' => w'.cell? ⟨X, 1, none⟩ = some (.int .u64 (ad : Nat)) ∧ w'.cell? ⟨X, 2, none⟩ = some (.int .u64 (by_ : Nat))) (first | go_keep | exact KP.out _ hF2.out) ((first
      | (go_at_call 15; (with_reducible refine (MC.out _ _ _ _ _ hD1.out HK.out).mono ?_); rintro e w2 ⟨rfl, hD2, hF2⟩)
      | (go_at_call 21; (with_reducible refine (RC.out _).mono ?_); rintro e w' ⟨rfl, rfl⟩)))
    all_goals
      go_wp2_with fail
      go_ret
      exact ⟨rfl, Lib.hid ⟨L, hD2.out.forget (fun _ (x : False) => x.elim), by omega⟩⟩
end Go.Proofs.Ytcnnibhipjkgiaa
