/-
  The form of so many things of a type.
-/
import Derived.Test.YtcnnibhipjkgiaaPcs
import Derived.Deep.OwnRows
namespace Go.Proofs.Ytcnnibhipjkgiaa
open Go.RowKit Go.Deep

theorem Try.infoBool : (Try.prog.info? 4).map (fun i => (i.zero, i.size, i.bytes)) = some (some (.bool false), 1, 1) := by kernel_rfl
theorem Try.infoU64 : (Try.prog.info? 23).map (fun i => (i.zero, i.size, i.bytes)) = some (some (.int .u64 0), 1, 8) := by kernel_rfl

def fmOf (bs : List Bool) : Nat → Fm
  | 0 => .none
  | 1 => .place bs
  | n + 2 => .things bs (n + 2)

theorem fmOf_at (bs : List Bool) (hl : 0 < bs.length) (n i : Nat) : (fmOf bs n).at i = (decide (i / bs.length < n) && bit bs (i % bs.length)) := by
  match n with
  | 0 => simp [fmOf, Fm.at]
  | 1 =>
    simp only [fmOf, Fm.at]
    by_cases h : i < bs.length
    · rw [Nat.div_eq_of_lt h, Nat.mod_eq_of_lt h]; simp
    · rw [bit_out (by omega)]
      have : ¬ i / bs.length < 1 := by
        have := Nat.div_pos (by omega : bs.length ≤ i) hl
        omega
      simp [this]
  | n + 2 => rfl

/-- what the ahead row holds on its way -/
def aw (bs : List Bool) (q : Nat) (j : Nat) : Value := .int .u64 ((if j ≤ q then cntTo (bit bs) j else 0 : Nat) : Nat)

theorem aheads_len (bs : List Bool) : (aheads bs).length = bs.length + 1 := by unfold aheads; simp

theorem rd_ahead {w : World} {b : Nat} {bs : List Bool} (h : w.rowIs b 23 (bs.length + 1) (aw bs bs.length)) : Rd w 1 (.slice (some ⟨b, 0, none⟩) (bs.length + 1) (bs.length + 1)) (bs.length + 1) (aheads bs) := by
  refine ⟨_, _, rfl, Nat.le_refl _, by rw [aheads_len, Nat.mul_one], (fun e => by cases e), fun j u hu => ⟨_, rfl, ?_⟩⟩
  have hj : j < bs.length + 1 := by have := (List.getElem?_eq_some_iff.1 hu).1; rw [aheads_len] at this; exact this
  rw [aheads_get (by omega)] at hu
  have : (⟨b, 0, none⟩ : Addr).add j = ⟨b, j, none⟩ := by unfold Addr.add; split <;> simp_all
  rw [this, h.cell hj]
  unfold aw
  rw [if_pos (by omega)]; exact hu

theorem ownsRow_F {w : World} {B T sz n : Nat} {v : Value} {xs : List Value} (h : w.ownsRow B T sz v n xs) : RdF (fun b => B ≤ b) w sz v n xs := by
  refine ⟨ownsRow_rd h, ?_⟩
  rintro a n' c rfl
  rcases h.2 with ⟨h1, _⟩ | ⟨g, cap, cur, h1, h2, _⟩
  · cases h1
  · simp only [Value.slice.injEq, Option.some.injEq] at h1
    rw [h1.1]; exact h2

/-- what of leaves -/
def OfPost (bs : List Bool) (n : Nat) (w : World) (e : Ending) (w' : World) : Prop := ∃ v, e = .returned v ∧ Hid (FormAt (fun b => w.heap.size ≤ b ∧ b < w'.heap.size) w' v (fmOf bs n)) ∧ Hid (Fr (fun _ => False) w w')

theorem RdF.lt {F : Nat → Prop} {w : World} {sz n : Nat} {v : Value} {xs : List Value} (h : RdF F w sz v n xs) (h0 : 0 < xs.length) : RdF (fun b => F b ∧ b < w.heap.size) w sz v n xs := by
  refine ⟨h.1, fun a n' c hv => ⟨h.2 a n' c hv, ?_⟩⟩
  obtain ⟨a', c', hv', _, _, _, hx⟩ := h.1
  rw [hv'] at hv
  simp only [Value.slice.injEq] at hv
  obtain ⟨rfl, rfl, rfl⟩ := hv
  obtain ⟨ad, he, hc⟩ := hx 0 xs[0] (List.getElem?_eq_getElem h0)
  simp only [Option.some.injEq] at he
  subst he
  have := World.block_lt_of_cell? _ _ hc
  rw [addr_add_zero] at this; exact this

set_option maxHeartbeats 2000000 in
theorem of_any (w : World) (bs : List Bool) (a : Option Addr) (c : Nat) (wd : Int) (n : Nat) (h : Rd w 1 (.slice a bs.length c) bs.length (bs.map .bool)) (hl : 0 < bs.length) (hb : bs.length ≤ 65536) (hn : n * bs.length ≤ 137438953472) :
    Calls Try.prog 18 #[.agg #[.int .i64 wd, .slice a bs.length c], .int .u64 n] w (OfPost bs n w) := by
  have hn' : n ≤ 137438953472 := Nat.le_trans (Nat.le_mul_of_pos_right n hl) hn
  obtain ⟨i0, hi, hz0, hz1, hz2⟩ := info_parts Try.infoBool
  have H := Lib.hid h
  have HN := Lib.hid hn
  have hmk : ∀ W : World, (Instr.makeSlice 37 (.int .i64 (((bs.length : Nat) : Int) + 1)) (.int .i64 (((bs.length : Nat) : Int) + 1))).run Try.prog W = .ok (.slice (some ⟨W.heap.size, 0, none⟩) (bs.length + 1) (bs.length + 1)) (W.alloc (.cells (madeCells #[.int .u64 0] (bs.length + 1)) 23)) := fun W => by
    have := run_make_row' (P := Try.prog) 37 23 (.int .u64 0) 8 Try.underlying37 Try.infoU64 rfl .i64 .i64 (bs.length + 1) (by omega) (by omega) W
    simpa using this
  clear h hn
  by_cases h0 : n = 0
  · subst h0
    go_enter Try.func18, Try.ntmps18
    go_wp2
    go_ret
    exact ⟨_, rfl, Lib.hid rfl, Lib.hid ((Fr.refl _ w).alloc _)⟩
  by_cases h1 : n = 1
  · subst h1
    go_enter Try.func18, Try.ntmps18
    go_wp2_with (first | (at_builtin; refine wpList_append_rd (w0 := w) (S := fun _ => False) rfl _ _ 22 rfl 4 i0 _ 1 1 Try.underlying22 hi hz0 hz1 hz2 rfl (by decide) _ 0 [] rfl ?c1 ?c2 _ bs.length (bs.map .bool) rfl ?c3 ?c4 ?c5 ?c6 ?_))
    case c1 => exact ownsRow_empty 1 (by rw [heap_alloc]; exact if_pos (by simp)) (by simp)
    case c2 => exact ((Fr.refl _ w).alloc _).alloc _
    case c3 => exact H.out.fr (S := fun _ => False) (((Fr.refl _ w).alloc _).alloc _) (fun _ _ x => x)
    case c4 => exact fun u hu => by obtain ⟨b, _, rfl⟩ := List.mem_map.1 hu; rfl
    case c5 => simp only [maxLen]; omega
    case c6 => omega
    intro v w1 hown hf _
    replace hown : w1.ownsRow w.heap.size 4 1 v bs.length (bs.map .bool) := by simpa using hown
    obtain ⟨a1, c1, rfl⟩ := ownsRow_form hown
    have O := Lib.hid (And.intro hown hf)
    clear hown hf
    go_wp2
    go_ret
    obtain ⟨hown, hf⟩ := O.out
    exact ⟨_, rfl, Lib.hid ⟨a1, c1, rfl, (ownsRow_F hown).lt (by simpa using hl), hb⟩, Lib.hid hf⟩
  have hfm : fmOf bs n = .things bs n := by
    match n, h0, h1 with
    | n + 2, _, _ => rfl
  have HF := Lib.hid hfm
  clear hfm
  go_enter Try.func18, Try.ntmps18
  go_wp2_with (first | (at_builtin; refine wpList_append_rd (w0 := w) (S := fun _ => False) rfl _ _ 22 rfl 4 i0 _ 1 1 Try.underlying22 hi hz0 hz1 hz2 rfl (by decide) _ 0 [] rfl ?c1 ?c2 _ bs.length (bs.map .bool) rfl ?c3 ?c4 ?c5 ?c6 ?_))
  case c1 => exact ownsRow_empty 1 (by rw [heap_alloc]; exact if_pos (by simp)) (by simp)
  case c2 => exact ((Fr.refl _ w).alloc _).alloc _
  case c3 => exact H.out.fr (S := fun _ => False) (((Fr.refl _ w).alloc _).alloc _) (fun _ _ x => x)
  case c4 => exact fun u hu => by obtain ⟨b, _, rfl⟩ := List.mem_map.1 hu; rfl
  case c5 => simp only [maxLen]; omega
  case c6 => omega
  intro v w1 hown hf _
  have hown : w1.ownsRow w.heap.size 4 1 v bs.length (bs.map .bool) := by simpa using hown
  obtain ⟨a1, c1, rfl⟩ := ownsRow_form hown
  have hs1 := hf.size
  have O := Lib.hid (And.intro hown hf)
  clear hown hf
  go_wp2_with fail
  obtain ⟨W, hW⟩ : ∃ W, W = (w1.alloc (.cells (madeCells #[.int .u64 0] (bs.length + 1)) 23)).alloc (.cells #[.slice a1 bs.length c1, .slice (some ⟨w1.heap.size, 0, none⟩) (bs.length + 1) (bs.length + 1), .int .u64 (n : Nat)] 69) := ⟨_, rfl⟩
  rw [← hW]
  have K : Hid (W.rowIs w1.heap.size 23 (bs.length + 1) (aw bs 0) ∧ W.heap[w1.heap.size + 1]? = some (.cells #[.slice a1 bs.length c1, .slice (some ⟨w1.heap.size, 0, none⟩) (bs.length + 1) (bs.length + 1), .int .u64 (n : Nat)] 69 (0, 0)) ∧ Fr (fun _ => False) w1 W ∧ W.heap.size = w1.heap.size + 2) := by
    refine Lib.hid ⟨?_, ?_, ?_, ?_⟩
    · rw [hW]
      refine ((World.rowIs_made w1 (.int .u64 0) (bs.length + 1) 23).alloc _).congr (fun j hj => ?_)
      unfold aw
      by_cases e : j ≤ 0
      · have : j = 0 := by omega
        subst this; rfl
      · rw [if_neg e]; rfl
    · rw [hW, heap_alloc, if_pos (by simp)]
    · rw [hW]; exact ((Fr.refl _ w1).alloc _).alloc _
    · rw [hW]; simp
  clear hW
  go_loopg [30] bs.length (fun k i wr => ∃ q : Nat, i = .int .i64 q ∧ Hid (Fr (fun b => b = w1.heap.size) W wr ∧ wr.rowIs w1.heap.size 23 (bs.length + 1) (aw bs q) ∧ q ≤ bs.length ∧ bs.length - q = k))
  case atStart => exact ⟨0, rfl, Lib.hid ⟨Fr.refl _ _, K.out.1, Nat.zero_le _, rfl⟩⟩
  case round =>
    obtain ⟨q, rfl, HR⟩ := hrel
    obtain ⟨x0, x1, x2⟩ := blk3 (HR.out.1.at K.out.2.1 (by omega))
    have hq := HR.out.2.2.1
    by_cases hlt : q < bs.length
    · have hRd : Rd wr 1 (.slice a1 bs.length c1) bs.length (bs.map .bool) := (((ownsRow_F O.out.1).lt (by simpa using hl)).fr K.out.2.2.1 (fun _ _ x => x)).1.fr HR.out.1 (fun ad ⟨c', hv⟩ e => by
        have := (((ownsRow_F O.out.1).lt (by simpa using hl))).2 ad _ _ hv
        omega)
      obtain ⟨mb, mo, rfl, hm⟩ := rd_at hRd (bools_get hlt)
      have hmb : mb < w1.heap.size := ((ownsRow_F O.out.1).lt (by simpa using hl)).2 _ _ _ rfl |>.2
      have f0 := HR.out.2.1.frozen (q + 1)
      have y0 := HR.out.2.1.cell (i := q) (by omega)
      have y1 := HR.out.2.1.cell (i := q + 1) (by omega)
      replace y0 : wr.cell? ⟨w1.heap.size, q, none⟩ = some (.int .u64 (cntTo (bit bs) q : Nat)) := by rw [y0]; unfold aw; rw [if_pos (Nat.le_refl _)]
      replace y1 : wr.cell? ⟨w1.heap.size, q + 1, none⟩ = some (.int .u64 0) := by rw [y1]; unfold aw; rw [if_neg (by omega)]; rfl
      have hcl := cntTo_le (bit bs) q
      have ST : Hid (∀ (v : Value) (wx : World) (f : Nat → Value), wx.rowIs w1.heap.size 23 (bs.length + 1) f → (∀ j, j ≠ q + 1 → f j = aw bs q j) → v = .int .u64 (cntTo (bit bs) (q + 1) : Nat) → (wx.setCell ⟨w1.heap.size, q + 1, none⟩ v).rowIs w1.heap.size 23 (bs.length + 1) (aw bs (q + 1))) := Lib.hid (fun v wx f h hf e => (h.set (q + 1) v).congr (fun j hj => by
        by_cases e1 : j = q + 1
        · rw [if_pos e1, e, e1]; unfold aw; rw [if_pos (Nat.le_refl _)]
        · rw [if_neg e1, hf j e1]; unfold aw
          by_cases e2 : j ≤ q
          · rw [if_pos e2, if_pos (by omega)]
          · rw [if_neg e2, if_neg (by omega)]))
      have HM := Lib.hid hmb
      clear hRd hmb
      cases hbit : bit bs q with
      | true =>
        rw [hbit] at hm
        have HB : Hid (cntTo (bit bs) (q + 1) = cntTo (bit bs) q + 1) := Lib.hid (by simp only [cntTo]; rw [hbit]; rfl)
        clear hbit
        go_wp2_with fail
        go_region
        go_wp2_with fail
        go_roundg (bs.length - (q + 1))
        case measure => have := HR.out.2.2.2; omega
        case rel => exact ⟨q + 1, by go_num, Lib.hid ⟨(HR.out.1.drew.setCell _ _ (.inl rfl)).setCell _ _ (.inl rfl), ST.out _ _ _ (HR.out.2.1.drew.set (q + 1) _) (fun j hj => if_neg hj) (by rw [HB.out]; go_num), hlt, rfl⟩⟩
      | false =>
        rw [hbit] at hm
        have HB : Hid (cntTo (bit bs) (q + 1) = cntTo (bit bs) q) := Lib.hid (by simp only [cntTo]; rw [hbit]; rfl)
        clear hbit
        go_wp2_with fail
        go_region
        go_wp2_with fail
        go_roundg (bs.length - (q + 1))
        case measure => have := HR.out.2.2.2; omega
        case rel => exact ⟨q + 1, by go_num, Lib.hid ⟨HR.out.1.drew.setCell _ _ (.inl rfl), ST.out _ _ _ HR.out.2.1.drew (fun j hj => rfl) (by rw [HB.out]), hlt, rfl⟩⟩
    · have : q = bs.length := by omega
      subst this
      go_wp2_with fail
      go_ret
      obtain ⟨hown, hf⟩ := O.out
      refine ⟨_, rfl, Lib.hid ?_, Lib.hid ?_⟩
      · rw [HF.out]
        have hRd : RdF (fun b => w.heap.size ≤ b ∧ b < w1.heap.size) w1 1 (.slice a1 bs.length c1) bs.length (bs.map .bool) := (ownsRow_F hown).lt (by simpa using hl)
        have hfa := K.out.2.2.1
        have hsz := K.out.2.2.2
        have hsz2 := HR.out.1.size
        refine ⟨a1, c1, _, _, rfl, ((hRd.fr hfa (fun _ _ x => x)).fr HR.out.1 (fun b hb e => by omega)).mono (fun b hb => ⟨hb.1, by omega⟩), ⟨rd_ahead HR.out.2.1, ?_⟩, hl, hb, HN.out⟩
        intro a n' c' hv
        simp only [Value.slice.injEq, Option.some.injEq] at hv
        rw [← hv.1]
        exact ⟨hs1, by show w1.heap.size < wr.heap.size; omega⟩
      · exact (hf.trans K.out.2.2.1 (fun _ _ x => x)).trans HR.out.1 (fun b hb e => by omega)
end Go.Proofs.Ytcnnibhipjkgiaa
