/-
  A row of truths is copied with one more behind it, in any order: the laws.
-/
import Derived.Test.YtcnnibhipjkgiaaActRead
namespace Go.Proofs.Ytcnnibhipjkgiaa
open Go.RowKit Go.Deep

theorem heap_drew (w : World) : w.drew.heap = w.heap := rfl

theorem heap_at {w : World} {o : Obj} {k : Nat} (h : k = w.heap.size) : (w.alloc o).heap[k]? = some o := by rw [heap_alloc, if_pos h]
theorem heap_old {w : World} {o x : Obj} {k : Nat} (h : w.heap[k]? = some x) : (w.alloc o).heap[k]? = some x := by rw [heap_alloc_ne (lt_blk h)]; exact h

/-- the first append: onto the empty row in block EB -/
structure App1 (W w w' : World) (EB : Nat) (a' : Option Addr) (c' : Nat) (bs : List Bool) : Prop where
  own : w'.ownsRow W.heap.size 4 1 (.slice a' bs.length c') bs.length (bs.map .bool)
  fr : Fr (fun b => b = EB) w w'
  frW : Fr (fun _ => False) W w'
  new : ∀ g, (Value.slice a' bs.length c').ownBlock = some g → g = EB ∨ w.heap.size ≤ g

structure App2 (W w w' : World) (a' : Option Addr) (c' : Nat) (a3 : Option Addr) (c3 : Nat) (bs : List Bool) : Prop where
  own : w'.ownsRow W.heap.size 4 1 (.slice a3 (bs.length + 1) c3) (bs.length + 1) (bs.map .bool ++ [.bool true])
  fr : Fr (fun b => some b = (Value.slice a' bs.length c').ownBlock) w w'
  frW : Fr (fun _ => False) W w'
  new : ∀ g, (Value.slice a3 (bs.length + 1) c3).ownBlock = some g → (Value.slice a' bs.length c').ownBlock = some g ∨ w.heap.size ≤ g

theorem own_ge {w : World} {B T n : Nat} {v : Value} {xs : List Value} (h : w.ownsRow B T 1 v n xs) {g : Nat} (e : v.ownBlock = some g) : B ≤ g ∧ g < w.heap.size := by
  rcases h.2 with ⟨h5, _⟩ | ⟨g', cap, cur, hv, hg0, hh, r5⟩
  · rw [h5] at e; simp [Value.ownBlock] at e
  · rw [hv] at e
    simp [Value.ownBlock] at e
    subst e
    exact ⟨hg0, lt_blk hh⟩

theorem own_raise {w : World} {B B' T n : Nat} {v : Value} {xs : List Value} (h : w.ownsRow B T 1 v n xs) (hB : ∀ g, v.ownBlock = some g → B' ≤ g) : w.ownsRow B' T 1 v n xs := by
  refine ⟨h.1, ?_⟩
  rcases h.2 with h5 | ⟨g', cap, cur, hv, hg0, hh, r5⟩
  · exact .inl h5
  · exact .inr ⟨g', cap, cur, hv, hB g' (by rw [hv]; rfl), hh, r5⟩

variable {o : Oper} {act : Act} {K : Act → World → Prop} {Q : Exit → Act → World → Prop}

theorem wp_app1 {W w : World} {EB : Nat} {bs : List Bool} {a : Option Addr} {c : Nat} (s x : Operand)
    (ho : o.op = .call { callee := .builtin .append, args := #[s, x], argTypes := #[22, 22] })
    (hs : act.eval s = .slice (some ⟨EB, 0, none⟩) 0 0) (hx : act.eval x = .slice a bs.length c)
    (hE : w.heap[EB]? = some (.cells #[] 4 (0, 0))) (hEB : W.heap.size ≤ EB) (hf : Fr (fun _ => False) W w)
    (hrd : Hid (Rd W 1 (.slice a bs.length c) bs.length (bs.map .bool))) (hb : bs.length ≤ 20000)
    (h : ∀ a' c' w', bs.length ≤ c' → Hid (App1 W w w' EB a' c' bs) → K (act.put o.dst (.slice a' bs.length c')) w') : o.wp Try.prog act w K Q := by
  obtain ⟨i0, hi, hz0, hz1, hz2⟩ := info_parts Try.infoBool
  refine wp_append_rows (P := Try.prog) s x 22 ho 4 i0 _ 1 1 Try.underlying22 hi hz0 hz1 hz2 (by rfl) (by decide) _ 0 [] hs (ownsRow_empty 1 hE (Nat.zero_le _)) _ bs.length (bs.map .bool) hx (hrd.out.fr hf (fun _ _ x => x))
    (fun u hu => by obtain ⟨b, _, rfl⟩ := List.mem_map.1 hu; rfl) (by simp only [maxLen]; omega) (by omega) (fun v' w' h2 h3 h4 => ?_)
  rw [Nat.zero_add, List.nil_append] at h2
  obtain ⟨a', c', rfl⟩ := ownsRow_form h2
  have hn : ∀ g, (Value.slice a' bs.length c').ownBlock = some g → g = EB ∨ w.heap.size ≤ g := fun g hg => by
    rcases h4 g hg with h5 | h5
    · simp [Value.ownBlock] at h5; exact .inl h5.symm
    · exact .inr h5
  have f1 : Fr (fun b => b = EB) w w' := h3.mono (fun b _ e => by simp [Value.ownBlock] at e; exact e)
  refine h a' c' w' (ownsRow_cap h2) (Lib.hid ⟨own_raise h2 (fun g hg => ?_), f1, hf.trans f1 (fun b hb e => by omega), hn⟩)
  rcases hn g hg with h5 | h5
  · omega
  · exact Nat.le_trans hf.size h5

theorem wp_app2 {W p w2 w : World} {EB TB : Nat} {bs : List Bool} {a' : Option Addr} {c' : Nat} (s x : Operand)
    (ho : o.op = .call { callee := .builtin .append, args := #[s, x], argTypes := #[22, 22] })
    (h1 : Hid (App1 W p w2 EB a' c' bs))
    (hs : act.eval s = .slice a' bs.length c') (hx : act.eval x = .slice (some ⟨TB, 0, none⟩) 1 1)
    (hT : w.heap[TB]? = some (.cells #[.bool true] 4 (0, 0))) (hf : Fr (fun _ => False) w2 w) (hb : bs.length ≤ 20000)
    (h : ∀ a3 c3 w3, bs.length + 1 ≤ c3 → Hid (App2 W w w3 a' c' a3 c3 bs) → K (act.put o.dst (.slice a3 (bs.length + 1) c3)) w3) : o.wp Try.prog act w K Q := by
  obtain ⟨i0, hi, hz0, hz1, hz2⟩ := info_parts Try.infoBool
  refine wp_append_rows (P := Try.prog) s x 22 ho 4 i0 _ 1 1 Try.underlying22 hi hz0 hz1 hz2 (by rfl) (by decide) _ bs.length (bs.map .bool) hs (ownsRow_fr (ownsRow_mono h1.out.own (Nat.zero_le _)) hf (fun _ x => x.elim)) _ 1 [.bool true] hx (Rd.new (t := 4) hT 1 1 rfl)
    (fun u hu => by simp at hu; subst hu; rfl) (by simp only [maxLen]; omega) (by omega) (fun v' w' h2 h3 h4 => ?_)
  obtain ⟨a3, c3, rfl⟩ := ownsRow_form h2
  have hge : ∀ g, (Value.slice a' bs.length c').ownBlock = some g → W.heap.size ≤ g := fun g hg => (own_ge h1.out.own hg).1
  have hfW := h1.out.frW.trans hf (fun _ _ x => x)
  refine h a3 c3 w' (ownsRow_cap h2) (Lib.hid ⟨own_raise h2 (fun g hg => ?_), h3, hfW.trans h3 (fun b hb e => by have := hge b e.symm; omega), h4⟩)
  rcases h4 g hg with h5 | h5
  · exact hge g h5
  · exact Nat.le_trans hfW.size h5

/-- the box of a type -/
abbrev typBox (wd : Int) (v : Value) : Obj := .cells #[.int .i64 wd, v] 27

theorem App1.keepT {W w w' : World} {EB Tb : Nat} {a' : Option Addr} {c' : Nat} {bs : List Bool} {Z : Obj} (h : App1 W w w' EB a' c' bs) (hT : w.heap[Tb]? = some Z) (hne : Tb ≠ EB) : w'.heap[Tb]? = some Z ∧ ∀ g, (Value.slice a' bs.length c').ownBlock = some g → g ≠ Tb :=
  ⟨h.fr.at hT hne, fun g hg => by
    have := lt_blk hT
    rcases h.new g hg with h5 | h5
    · omega
    · omega⟩

theorem App2.keepT {W w w' : World} {Tb : Nat} {a' a3 : Option Addr} {c' c3 : Nat} {bs : List Bool} {Z : Obj} (h : App2 W w w' a' c' a3 c3 bs) (hT : w.heap[Tb]? = some Z) (hne : ∀ g, (Value.slice a' bs.length c').ownBlock = some g → g ≠ Tb) : w'.heap[Tb]? = some Z ∧ ∀ g, (Value.slice a3 (bs.length + 1) c3).ownBlock = some g → g ≠ Tb :=
  ⟨h.fr.at hT (fun e => hne Tb e.symm rfl), fun g hg => by
    have := lt_blk hT
    rcases h.new g hg with h5 | h5
    · exact hne g h5
    · omega⟩

theorem App1.far {W w w' : World} {EB Tb : Nat} {a' : Option Addr} {c' : Nat} {bs : List Bool} (h : App1 W w w' EB a' c' bs) (hT : w'.heap.size ≤ Tb) : ∀ g, (Value.slice a' bs.length c').ownBlock = some g → g ≠ Tb := fun g hg => by
  have := (own_ge h.own hg).2; omega

/-- what the copy has left -/
structure Kopy (W wx : World) (T : Nat) (wd : Int) (a3 : Option Addr) (c3 : Nat) (bs : List Bool) : Prop where
  typ : wx.heap[T]? = some (typBox wd (.slice a3 bs.length c3))
  own : wx.ownsRow W.heap.size 4 1 (.slice a3 (bs.length + 1) c3) (bs.length + 1) (bs.map .bool ++ [.bool true])
  fr : Fr (fun _ => False) W wx
  lie : W.heap.size ≤ T ∧ ∀ g, (Value.slice a3 (bs.length + 1) c3).ownBlock = some g → g ≠ T

theorem kopy_in {W w w3 : World} {T : Nat} {wd : Int} {a' a3 : Option Addr} {c' c3 : Nat} {bs : List Bool} (h : Hid (App2 W w w3 a' c' a3 c3 bs)) (hT : w3.heap[T]? = some (typBox 0 (.slice none 0 0)) ∧ ∀ g, (Value.slice a3 (bs.length + 1) c3).ownBlock = some g → g ≠ T) (hW : W.heap.size ≤ T) :
    Kopy W ((w3.setCell ⟨T, 0, none⟩ (.int .i64 wd)).setCell ⟨T, 1, none⟩ (.slice a3 bs.length c3)) T wd a3 c3 bs := by
  have f : Fr (fun b => b = T) w3 ((w3.setCell ⟨T, 0, none⟩ (.int .i64 wd)).setCell ⟨T, 1, none⟩ (.slice a3 bs.length c3)) := ((Fr.refl (fun b => b = T) w3).setCell ⟨T, 0, none⟩ _ (.inl rfl)).setCell ⟨T, 1, none⟩ _ (.inl rfl)
  refine ⟨?_, ?_, h.out.frW.trans f (fun b hb e => by omega), hW, hT.2⟩
  · have h1 := heap_setCell_at (i := 0) (v := .int .i64 wd) hT.1
    have h2 := heap_setCell_at (i := 1) (v := .slice a3 bs.length c3) h1
    exact h2
  · refine ⟨h.out.own.1, ?_⟩
    rcases h.out.own.2 with h5 | ⟨g', cap, cur, hv, hg0, hh, r5⟩
    · exact .inl h5
    · exact .inr ⟨g', cap, cur, hv, hg0, f.at hh (hT.2 g' (by rw [hv]; rfl)), r5⟩

theorem kopy_end {W w w3 : World} {wd : Int} {a' a3 : Option Addr} {c' c3 : Nat} {bs : List Bool} (h : Hid (App2 W w w3 a' c' a3 c3 bs)) :
    Kopy W (((w3.alloc (typBox 0 (.slice none 0 0))).setCell ⟨w3.heap.size, 0, none⟩ (.int .i64 wd)).setCell ⟨w3.heap.size, 1, none⟩ (.slice a3 bs.length c3)) w3.heap.size wd a3 c3 bs := by
  have f0 : Fr (fun _ => False) w3 (w3.alloc (typBox 0 (.slice none 0 0))) := (Fr.refl _ _).alloc _
  refine kopy_in (w := w) (a' := a') (c' := c') (Lib.hid ⟨ownsRow_fr h.out.own f0 (fun _ x => x.elim), h.out.fr.trans f0 (fun _ _ x => x.elim), h.out.frW.trans f0 (fun _ _ x => x), h.out.new⟩) ⟨by rw [heap_alloc, if_pos rfl], fun g hg => by have := (own_ge h.out.own hg).2; omega⟩ h.out.frW.size

theorem kopy_end2 {W w w3 : World} {wd : Int} {a' a3 : Option Addr} {c' c3 : Nat} {bs : List Bool} (h : Hid (App2 W w w3 a' c' a3 c3 bs)) :
    Kopy W (w3.alloc (typBox wd (.slice a3 bs.length c3))) w3.heap.size wd a3 c3 bs := by
  have f0 : Fr (fun _ => False) w3 (w3.alloc (typBox wd (.slice a3 bs.length c3))) := (Fr.refl _ _).alloc _
  exact ⟨by rw [heap_alloc, if_pos rfl], ownsRow_fr h.out.own f0 (fun _ x => x.elim), h.out.frW.trans f0 (fun _ _ x => x), h.out.frW.size, fun g hg => by have := (own_ge h.out.own hg).2; omega⟩

theorem Kopy.drew {W wx : World} {T : Nat} {wd : Int} {a3 : Option Addr} {c3 : Nat} {bs : List Bool} (h : Kopy W wx T wd a3 c3 bs) : Kopy W wx.drew T wd a3 c3 bs :=
  ⟨h.typ, h.own, h.fr.drew, h.lie⟩

theorem duo_ref_any {A : Nat → Prop} {w0 w : World} {m r k : Nat} {p : Nat → Bool} {L : List Rf.WV} (h : Duo A w0 w m r p L k) (ad by_ : Nat) (ha : ad ≤ 18446744073709551615) (hb : by_ ≤ 18446744073709551615) (hL : L.length ≤ 100000)
    (wd : Int) (bs : List Bool) (a : Option Addr) (c n : Nat) (hn : n ≤ 18446744073709551615) (hrd : Rd w 1 (.slice a bs.length c) bs.length (bs.map .bool)) :
    Calls Try.prog 20 #[.pointer (some ⟨r, 0, none⟩), .int .u64 ad, .int .u64 by_, .agg #[.int .i64 wd, .slice a bs.length c], .int .u64 n] w fun e w' =>
      ∃ L' : List Rf.WV, e = .returned (.int .i64 (wcode ad by_ wd bs.length n)) ∧ Hid (Duo A w0 w' m r p L' k) ∧ Hid (L'.length ≤ L.length + 1 ∧ Rf.rsem (L'.map (·.1)) = (if wcode ad by_ wd bs.length n = 0 then over (ad / 8) ((ad + by_) / 8) (fmOf bs n).at (Rf.rsem (L.map (·.1))) else Rf.rsem (L.map (·.1)))) ∧ Hid (Fr (Far A w0) w w') := by
  by_cases h0 : wcode ad by_ wd bs.length n = 0
  · have h1 : ¬ (¬ Right ad by_ ∨ wd < 1 ∨ 65536 < wd ∨ ((bs.length : Nat) : Int) ≠ wd) := fun x => by unfold wcode at h0; rw [if_pos x] at h0; omega
    have hR : Right ad by_ := Decidable.byContradiction (fun x => h1 (.inl x))
    have hwd : wd = ((bs.length : Nat) : Int) := by omega
    subst hwd
    have h2 : n ≤ by_ / 8 / bs.length := by
      by_cases x : by_ / 8 / bs.length < n
      · unfold wcode at h0; rw [if_neg h1, if_pos x] at h0; omega
      · omega
    have hl : 0 < bs.length := by omega
    refine (duo_write_ref h ⟨ad, by_, bs, n⟩ ⟨hR, hl, by simp only; omega, (Nat.le_div_iff_mul_le hl).1 h2⟩ a c hrd h2 hL).mono ?_
    rintro e w' ⟨v, rfl, d1, d2⟩
    exact ⟨L ++ [(⟨ad, by_, bs, n⟩, v)], by rw [h0], d1, Lib.hid ⟨by simp, by rw [if_pos h0, rsem_put]⟩, d2⟩
  · refine (Rf.write_no w ad by_ ha hb wd bs a c n hn h0).mono ?_
    rintro e w' ⟨rfl, hf⟩
    exact ⟨L, rfl, Lib.hid (h.quiet hf.out), Lib.hid ⟨by omega, by rw [if_neg h0]⟩, Lib.hid (hf.out.mono (fun _ _ x => x.elim))⟩

/-- the copied row, turned up to q; one true behind it -/
def kopyRow (bs : List Bool) (z : Nat → Value) (q j : Nat) : Value := if j < bs.length then turnTo bs q j else if j = bs.length then .bool true else z j

theorem Kopy.row {W wx : World} {T : Nat} {wd : Int} {a3 : Option Addr} {c3 : Nat} {bs : List Bool} (h : Kopy W wx T wd a3 c3 bs) :
    ∃ g z, a3 = some ⟨g, 0, none⟩ ∧ c3 ≤ 9223372036854775807 ∧ W.heap.size ≤ g ∧ g ≠ T ∧ wx.rowIs g 4 c3 (kopyRow bs z 0) := by
  rcases h.own.2 with ⟨_, h2⟩ | ⟨g, cap, cur, hv, hB, hh, h1, h2, h3, h4⟩
  · omega
  · simp only [Value.slice.injEq, true_and] at hv
    obtain ⟨rfl, rfl⟩ := hv
    refine ⟨g, fun j => cur.getD j undef, rfl, by simpa [maxLen] using h2, hB, h.lie.2 g rfl, cur, hh, by omega, fun j hj => ?_⟩
    have hjs : j < cur.size := by omega
    have get : cur[j]? = cur.toList[j]? := by simp
    unfold kopyRow turnTo
    by_cases e1 : j < bs.length
    · rw [if_pos e1, if_neg (by omega), get]
      have h5 : (cur.toList.take ((bs.length + 1) * 1))[j]? = cur.toList[j]? := List.getElem?_take_of_lt (by omega)
      rw [← h5, h4, List.getElem?_append_left (by simpa using e1), List.getElem?_map, List.getElem?_eq_getElem e1, Option.map_some, bit_in (List.getElem?_eq_getElem e1)]
    · rw [if_neg e1]
      by_cases e2 : j = bs.length
      · rw [if_pos e2, get]
        have h5 : (cur.toList.take ((bs.length + 1) * 1))[j]? = cur.toList[j]? := List.getElem?_take_of_lt (by omega)
        rw [← h5, h4, e2, List.getElem?_append_right (by simp)]
        simp
      · rw [if_neg e2]
        simp [Array.getD, hjs]

theorem rd_kopy {w : World} {g c3 : Nat} {bs : List Bool} {z : Nat → Value} (h : w.rowIs g 4 c3 (kopyRow bs z 0)) (hc : bs.length ≤ c3) (hm : c3 ≤ 9223372036854775807) : Rd w 1 (.slice (some ⟨g, 0, none⟩) bs.length c3) bs.length (bs.map .bool) := by
  refine ⟨_, _, rfl, hc, by simp, (fun e => by cases e), fun j u hu => ⟨_, rfl, ?_⟩⟩
  have hj : j < bs.length := by have := (List.getElem?_eq_some_iff.1 hu).1; simpa using this
  rw [List.getElem?_map, List.getElem?_eq_getElem hj, Option.map_some] at hu
  simp only [Option.some.injEq] at hu
  rw [add_plain', Nat.zero_add, h.cell (show j < c3 by omega), ← hu]
  unfold kopyRow turnTo
  rw [if_pos hj, if_neg (by omega), bit_in (List.getElem?_eq_getElem hj)]

theorem kopy_set {w : World} {g c3 q : Nat} {bs : List Bool} {z : Nat → Value} (h : w.rowIs g 4 c3 (kopyRow bs z q)) (hq : q < bs.length) : (w.setCell ⟨g, q, none⟩ (.bool (! bit bs q))).rowIs g 4 c3 (kopyRow bs z (q + 1)) := by
  refine (h.set q _).congr (fun j hj => ?_)
  unfold kopyRow turnTo
  by_cases e : j = q
  · rw [if_pos e, if_pos (by omega), if_pos (by omega), e]
  · rw [if_neg e]
    by_cases e1 : j < bs.length
    · rw [if_pos e1, if_pos e1]
      by_cases e2 : j < q
      · rw [if_pos e2, if_pos (by omega)]
      · rw [if_neg e2, if_neg (by omega)]
    · rw [if_neg e1, if_neg e1]
end Go.Proofs.Ytcnnibhipjkgiaa
