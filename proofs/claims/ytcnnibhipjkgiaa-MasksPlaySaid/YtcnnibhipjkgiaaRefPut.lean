/-
  The reference: Pointers, Write, Clear.
-/
import Derived.Test.YtcnnibhipjkgiaaRefCount
import Derived.Test.YtcnnibhipjkgiaaRefRead
import Derived.Test.YtcnnibhipjkgiaaOver
namespace Go.Proofs.Ytcnnibhipjkgiaa.Rf
open Go.RowKit Go.Deep

set_option maxHeartbeats 2000000 in
theorem pointers_any {F : Nat → Prop} {r : Nat} {L : List WV} (w : World) (h : Is w r L F) (addr bytes : Nat) (ha : addr ≤ 18446744073709551615) (hb : bytes ≤ 18446744073709551615) :
    Calls Try.prog 23 #[.pointer (some ⟨r, 0, none⟩), .int .u64 addr, .int .u64 bytes] w fun e w' =>
      e = .returned (.tuple #[.int .u64 ((if Right addr bytes then cnt (rsem (L.map (·.1))) (addr / 8) ((addr + bytes) / 8) else 0 : Nat) : Nat), .int .i64 (if Right addr bytes then 0 else 1)]) ∧ Hid (Fr (fun _ => False) w w') := by
  have hr := Lib.hid (right_any w addr bytes ha hb)
  by_cases hR : Right addr bytes
  · rw [if_pos hR, if_pos hR]
    rw [decide_eq_true hR] at hr
    obtain ⟨a, c, hp, hle, hc, _⟩ := h.head
    obtain ⟨r1, r2, r3, r4⟩ := right_words hR
    have hlen : L.length ≤ 9223372036854775807 := by omega
    have hT : (L.map (·.1)).take L.length = L.map (·.1) := List.take_of_length_le (by simp)
    have C0 := count_any (F := F) (r := r) (L := L) L.length w (addr / 8) ((addr + bytes) / 8) h (Nat.le_refl _) (by omega) (by omega)
    rw [hT] at C0
    obtain ⟨E, hE⟩ : ∃ E, E = addr + bytes := ⟨_, rfl⟩
    have k1 : ((addr : Nat) : Int) + ((bytes : Nat) : Int) = ((E : Nat) : Int) := by omega
    have k2 : 8 * (addr / 8) = addr := by have := hR.1; omega
    have k3 : 8 * ((addr + bytes) / 8) = E := by have := hR.1; have := hR.2.1; omega
    rw [k2, k3] at C0
    have CC := Lib.hid C0
    have hE2 : E ≤ 281474976710656 := by have := hR.2.2.2.2; omega
    clear C0 k2 k3 hT hR hE h hle hc
    go_enter Try.func23, Try.ntmps23
    go_wp2_with (first | (go_at_call 26; refine hr.out.mono ?_; rintro e w1 ⟨rfl, rfl⟩) | (go_at_call 28; (with_reducible refine CC.out.mono ?_); rintro e w1 ⟨rfl, hf1⟩))
    go_ret2
    exact ⟨rfl, hf1⟩
  · rw [if_neg hR, if_neg hR]
    rw [decide_eq_false hR] at hr
    clear hR h
    go_enter Try.func23, Try.ntmps23
    go_wp2_with (first | (go_at_call 26; refine hr.out.mono ?_; rintro e w1 ⟨rfl, rfl⟩))
    go_ret2
    exact ⟨rfl, Lib.hid (Fr.refl _ _)⟩

/-- what is left when a writing is put behind the others -/
def Put (w : World) (r : Nat) (L : List WV) (G : Nat → Prop) (x : Wt) (w' : World) : Prop :=
  ∃ v, Is w' r (L ++ [(x, v)]) (fun b => G b ∨ (w.heap.size ≤ b ∧ b < w'.heap.size)) ∧ Fr (fun b => b = r ∨ G b) w w'

theorem put_is {w w2 w3 : World} {r : Nat} {L : List WV} {G : Nat → Prop} {x : Wt} {a a2 a' : Option Addr} {c c2 c' : Nat} (h : Is w r L G) (hx : Ok x)
    (hc : w.heap[r]? = some (.cells #[.slice a L.length c] 45 (0, 0)))
    (hB : ∀ g, (Value.slice a L.length c).ownBlock = some g → G g)
    (hM : ∀ y ∈ L, ∃ a' c', y.2 = .slice a' y.1.bs.length c' ∧ RdF (fun b => G b ∧ (Value.slice a L.length c).ownBlock ≠ some b) w 1 (.slice a' y.1.bs.length c') y.1.bs.length (y.1.bs.map .bool))
    (f2 : Fr (fun _ => False) w w2) (own2 : w2.ownsRow w.heap.size 4 1 (.slice a2 x.bs.length c2) x.bs.length (x.bs.map .bool))
    (f3 : Fr (fun b => some b = (Value.slice a L.length c).ownBlock) w2 w3) (own3 : w3.ownsRow 0 73 5 (.slice a' (L.length + 1) c') (L.length + 1) (L.flatMap wcc ++ wcc (x, .slice a2 x.bs.length c2)))
    (hg : ∀ g, (Value.slice a' (L.length + 1) c').ownBlock = some g → (Value.slice a L.length c).ownBlock = some g ∨ w2.heap.size ≤ g) :
    Put w r L G x (w3.setCell ⟨r, 0, none⟩ (.slice a' (L.length + 1) c')) := by
  have hrl : r < w.heap.size := lt_blk hc
  have hlr : ∀ g, (Value.slice a L.length c).ownBlock = some g → g ≠ r := fun g hg e => h.own (e ▸ hB g hg)
  have f03 : Fr (fun b => some b = (Value.slice a L.length c).ownBlock) w w3 := (f2.mono (fun _ _ x => x.elim)).trans f3 (fun _ _ x => x)
  have f3' : Fr (fun b => b = r ∨ G b) w (w3.setCell ⟨r, 0, none⟩ (.slice a' (L.length + 1) c')) := ((f03.mono (T := fun b => b = r ∨ G b) (fun b _ e => .inr (hB b e.symm))).setCell _ _ (.inl (.inl rfl)))
  have f4 : Fr (fun b => b = r ∨ some b = (Value.slice a L.length c).ownBlock) w (w3.setCell ⟨r, 0, none⟩ (.slice a' (L.length + 1) c')) := ((f03.mono (T := fun b => b = r ∨ some b = (Value.slice a L.length c).ownBlock) (fun b _ e => .inr e)).setCell _ _ (.inl (.inl rfl)))
  have rowOwn : (Value.slice a' (L.length + 1) c').ownBlock ≠ some r := fun e => by
    rcases hg r e with h1 | h1
    · exact hlr r h1 rfl
    · have := f2.size; omega
  refine ⟨.slice a2 x.bs.length c2, ⟨⟨a', c', ?_, ?_, fun g hgg => ?_, fun y hy => ?_⟩, fun y hy => ?_, ?_, fun b hb => ?_⟩, f3'⟩
  · have := heap_setCell_at (i := 0) (v := .slice a' (L.length + 1) c') (f03.at hc (fun e => hlr r e.symm rfl))
    rw [this, List.length_append]; rfl
  · rw [List.length_append, List.flatMap_append, List.flatMap_singleton]
    refine ⟨by rw [List.length_append, flat_len wcc_len, wcc_len]; simp [Nat.add_mul], ?_⟩
    rcases own3.2 with h5 | ⟨g, cap, cur, hv, hg0, hh, r5⟩
    · exact .inl h5
    · refine .inr ⟨g, cap, cur, hv, hg0, ?_, r5⟩
      rw [heap_setCell_ne (fun e => rowOwn (by simp only at e; rw [hv, ← e]; rfl))]; exact hh
  · replace hgg : (Value.slice a' (L.length + 1) c').ownBlock = some g := by simpa using hgg
    rcases hg g hgg with h1 | h1
    · exact .inl (hB g h1)
    · refine .inr ⟨Nat.le_trans f2.size h1, ?_⟩
      rw [size_setCell]
      rcases own3.2 with ⟨h5, _⟩ | ⟨g', cap, cur, hv, hg0, hh, r5⟩
      · rw [h5] at hgg; simp [Value.ownBlock] at hgg
      · have e : g' = g := by
          have := hgg
          rw [hv] at this; simpa [Value.ownBlock] using this
        rw [← e]; exact lt_blk hh
  · rw [List.length_append]
    rcases List.mem_append.1 hy with hy | hy
    · obtain ⟨a5, c5, h5, h6, h7⟩ := hM y hy
      refine ⟨a5, c5, h5, h6.fr f4 (fun ad ⟨c9, e9⟩ hs => ?_), fun ad n' c9 e9 => ?_⟩
      · obtain ⟨h8, h9⟩ := h7 ad _ c9 e9
        rcases hs with hs | hs
        · exact h.own (hs ▸ h8)
        · exact h9 hs.symm
      · obtain ⟨h8, h9⟩ := h7 ad n' c9 e9
        refine ⟨.inl h8, fun e => ?_⟩
        rcases hg _ e with h1 | h1
        · exact h9 h1
        · have := h.lt _ h8; have := f2.size; omega
    · obtain rfl := List.mem_singleton.1 hy
      have far : ∀ ad n' c9, Value.slice a2 x.bs.length c2 = .slice (some ad) n' c9 → w.heap.size ≤ ad.block ∧ ad.block < w2.heap.size := fun ad n' c9 e9 => by
        rcases own2.2 with ⟨h5, _⟩ | ⟨g', cap, cur, hv, hg0, hh, r5⟩
        · rw [h5] at e9; simp at e9
        · rw [hv] at e9
          simp only [Value.slice.injEq, Option.some.injEq] at e9
          obtain ⟨rfl, _, _⟩ := e9
          exact ⟨hg0, lt_blk hh⟩
      refine ⟨a2, c2, rfl, ?_, fun ad n' c9 e9 => ?_⟩
      · have rd2 := ownsRow_rd own2
        have f5 : Fr (fun b => b = r ∨ some b = (Value.slice a L.length c).ownBlock) w2 (w3.setCell ⟨r, 0, none⟩ (.slice a' (L.length + 1) c')) := ((f3.mono (T := fun b => b = r ∨ some b = (Value.slice a L.length c).ownBlock) (fun b _ e => .inr e)).setCell _ _ (.inl (.inl rfl)))
        refine rd2.fr f5 (fun ad ⟨c9, e9⟩ hs => ?_)
        have h8 := far ad _ c9 e9
        rcases hs with hs | hs
        · omega
        · have := h.lt _ (hB _ hs.symm); omega
      · have h8 := far ad n' c9 e9
        refine ⟨.inr ⟨h8.1, ?_⟩, fun e => ?_⟩
        · rw [size_setCell]; exact Nat.lt_of_lt_of_le h8.2 f3.size
        · rcases hg _ e with h1 | h1
          · have := h.lt _ (hB _ h1); omega
          · omega
  · rcases List.mem_append.1 hy with hy | hy
    · exact h.ok y hy
    · obtain rfl := List.mem_singleton.1 hy
      exact hx
  · rintro (h1 | h1)
    · exact h.own h1
    · omega
  · rcases hb with h1 | h1
    · exact Nat.lt_of_lt_of_le (h.lt b h1) f3'.size
    · exact h1.2

theorem wcc_one (x : WV) (a : Option Addr) (n c : Nat) (h : x.2 = .slice a n c) : ∀ u ∈ wcc x, u.oneCell' = true := fun u hu => by
  unfold wcc at hu
  rw [h] at hu
  simp at hu
  rcases hu with rfl | rfl | rfl | rfl | rfl <;> rfl

theorem wpList_append_rows {P : Program} {w : World} {ops : Array Oper} {rest : List Oper} {o : Oper} {a : Act} {Q : Exit → Act → World → Prop} (hgd : o.guard = none) (s x : Operand) (t : TypeId)
    (ho : o.op = .call { callee := .builtin .append, args := #[s, x], argTypes := #[t, t] })
    (e : TypeId) (i : TypeInfo) (z : Value) (size bytes : Nat) (ht : P.underlying t = some (.slice e)) (hi : P.info? e = some i) (hz : i.zero = some z)
    (hsize : i.size = size) (hby : i.bytes = bytes) (hzs : z.cells.size = size) (hsz : 0 < size)
    (v : Value) (n : Nat) (xs : List Value) (hs : a.eval s = v) (hown : w.ownsRow 0 e size v n xs)
    (u : Value) (m : Nat) (news : List Value) (hx : a.eval x = u) (hrd : Rd w size u m news) (h1 : ∀ u ∈ news, u.oneCell' = true)
    (h63 : n + m ≤ maxLen) (hbytes : (n + m) * bytes ≤ 140737488355328)
    (h : ∀ v' w', w'.ownsRow 0 e size v' (n + m) (xs ++ news) → Fr (fun b => some b = v.ownBlock) w w' → (∀ g, v'.ownBlock = some g → v.ownBlock = some g ∨ w.heap.size ≤ g) → wpList P ops Q rest (a.put o.dst v') w') : wpList P ops Q (o :: rest) a w :=
  wpList_plain hgd fun K hK => wp_append_rows s x t ho e i z size bytes ht hi hz hsize hby hzs hsz v n xs hs hown u m news hx hrd h1 h63 hbytes (fun v' w' h2 h3 h4 => hK _ _ (h v' w' h2 h3 h4))

def Wrote (w : World) (r : Nat) (L : List WV) (G : Nat → Prop) (x : Wt) (e : Ending) (w' : World) : Prop := e = .returned (.int .i64 0) ∧ Hid (Put w r L G x w')

theorem Try.infoWriting : (Try.prog.info? 73).map (fun i => (i.zero, i.size, i.bytes)) = some (some (.agg #[.int .u64 0, .int .u64 0, .int .i64 0, .slice none 0 0, .int .u64 0]), 5, 56) := by kernel_rfl

set_option maxRecDepth 20000 in
set_option maxHeartbeats 4000000 in
theorem write_ok {G : Nat → Prop} {r : Nat} {L : List WV} (w : World) (h : Is w r L G) (x : Wt) (hx : Ok x) (a : Option Addr) (c : Nat) (hrd : Rd w 1 (.slice a x.bs.length c) x.bs.length (x.bs.map .bool)) (hn : x.n ≤ x.bytes / 8 / x.bs.length) (hL : L.length ≤ 100000) :
    Calls Try.prog 20 #[.pointer (some ⟨r, 0, none⟩), .int .u64 (x.addr : Nat), .int .u64 (x.bytes : Nat), .agg #[.int .i64 (x.bs.length : Nat), .slice a x.bs.length c], .int .u64 (x.n : Nat)] w (Wrote w r L G x) := by
  obtain ⟨ra, rc, hc, hown, hB, hM⟩ := h.row
  have hR := hx.1
  have hl := hx.2.1
  have hl2 := hx.2.2.1
  have PI := Lib.hid (fun (w2 w3 : World) (a2 a' : Option Addr) (c2 c' : Nat) f2 own2 f3 own3 hg => put_is (w2 := w2) (w3 := w3) (a2 := a2) (a' := a') (c2 := c2) (c' := c') h hx hc hB hM f2 own2 f3 own3 hg)
  obtain ⟨ad, by_, bs, N⟩ := x
  simp only at hR hl hl2 hn hrd PI ⊢
  obtain ⟨r1, r2, r3, r4⟩ := right_words hR
  have hr := Lib.hid (right_any (w.alloc (.cells #[.int .i64 (bs.length : Nat), .slice a bs.length c] 27)) ad by_ (by omega) (by omega))
  rw [decide_eq_true hR] at hr
  obtain ⟨i0, hi, hz0, hz1, hz2⟩ := info_parts Try.infoBool
  have q0 : ¬ bs = [] := by intro h; subst h; simp at hl
  have hq : decide (((by_ : Nat) : Int) / 8 / ((bs.length : Nat) : Int) < ((N : Nat) : Int)) = false := by simpa using (by exact_mod_cast hn : ((N : Nat) : Int) ≤ ((by_ : Nat) : Int) / 8 / ((bs.length : Nat) : Int))
  have h3 : ((((bs.length : Nat) : Int)) != ((bs.length : Nat) : Int)) = false := by simp
  have HO := Lib.hid hown
  have HO2 : Hid (∀ g, (Value.slice ra L.length rc).ownBlock = some g → g ≠ r) := Lib.hid (fun g hg e => h.own (e ▸ hB g hg))
  have HO3 : Hid (∀ g, (Value.slice ra L.length rc).ownBlock = some g → g < w.heap.size) := Lib.hid (fun g hg => h.lt g (hB g hg))
  have HC := Lib.hid hc
  have HRD := Lib.hid hrd
  have hrl := lt_blk hc
  have cp := cell_blk hc 0
  clear h hx hc hown hB hM hR hrd r1 r2 hn
  go_enter Try.func20, Try.ntmps20
  go_wp2_with (first | (go_at_call 26; refine hr.out.mono ?_; rintro e w1 ⟨rfl, rfl⟩))
  obtain ⟨W, hW⟩ : ∃ W, W = w.alloc (.cells #[.int .i64 (bs.length : Nat), .slice a bs.length c] 27) := ⟨_, rfl⟩
  rw [← hW]
  obtain ⟨X, hX⟩ : ∃ X, X = w.heap.size := ⟨_, rfl⟩
  rw [← hX]
  have hXb : W.heap[X]? = some (.cells #[.int .i64 (bs.length : Nat), .slice a bs.length c] 27 (0, 0)) := by rw [hW, hX, heap_alloc, if_pos rfl]
  have FW := Lib.hid (show Fr (fun _ => False) w W by rw [hW]; exact (Fr.refl _ _).alloc _)
  have hrX : r ≠ X := by omega
  have HX := Lib.hid (And.intro hX hXb)
  have x0 := cell_blk hXb 0
  have x1 := cell_blk hXb 1
  have xr := cell_through FW.out cp (fun x => x)
  obtain ⟨iw, wi, wz0, wz1, wz2⟩ := info_parts Try.infoWriting
  have fa : Fr (fun _ => False) W (W.alloc (.cells #[] 4)).drew := ((Fr.refl _ W).alloc _).drew
  have hnew : (W.alloc (.cells #[] 4)).drew.heap[W.heap.size]? = some (.cells #[] 4 (0, 0)) := by show (W.alloc _).heap[_]? = _; rw [heap_alloc]; exact if_pos rfl
  obtain ⟨v5, w2, r5, o5, f5, g5⟩ := run_append_row (P := Try.prog) (w := (W.alloc (.cells #[] 4)).drew) 22 22 4 i0 _ 1 1 Try.underlying22 hi hz0 hz1 hz2 (by rfl) (by decide)
    (.slice (some ⟨W.heap.size, 0, none⟩) 0 0) 0 [] (ownsRow_empty 1 hnew (Nat.zero_le _)) (.slice a bs.length c) bs.length (bs.map .bool) (HRD.out.fr (FW.out.trans fa (fun _ _ x => x)) (fun _ _ x => x)) (fun u hu => by obtain ⟨b, _, rfl⟩ := List.mem_map.1 hu; rfl) (by simp only [maxLen]; omega) (by omega)
  obtain ⟨a2, c2, rfl⟩ := ownsRow_form o5
  rw [Nat.zero_add] at r5 o5 g5
  rw [List.nil_append] at o5
  have F5 : Fr (fun _ => False) W w2 := fa.trans f5 (fun b hb e => by simp [Value.ownBlock] at e; omega)
  have own2 : w2.ownsRow w.heap.size 4 1 (.slice a2 bs.length c2) bs.length (bs.map .bool) := by
    refine ⟨o5.1, ?_⟩
    rcases o5.2 with h | ⟨g, cap, cur, hv, hg, r⟩
    · exact .inl h
    · refine .inr ⟨g, cap, cur, hv, ?_, r⟩
      rcases g5 g (by rw [hv]; rfl) with h | h
      · simp [Value.ownBlock] at h; rw [← h]; exact FW.out.size
      · exact Nat.le_trans FW.out.size (Nat.le_trans fa.size h)
  have FB := FW.out.trans F5 (fun _ _ x => x)
  obtain ⟨R5, hR5⟩ : ∃ o, o = Obj.cells #[.int .u64 (ad : Nat), .int .u64 (by_ : Nat), .int .i64 (bs.length : Nat), .slice a2 bs.length c2, .int .u64 (N : Nat)] 73 := ⟨_, rfl⟩
  obtain ⟨v6, w3, r6, o6, f6, g6⟩ := run_append_row (P := Try.prog) (w := w2.alloc (.cells #[.int .u64 (ad : Nat), .int .u64 (by_ : Nat), .int .i64 (bs.length : Nat), .slice a2 bs.length c2, .int .u64 (N : Nat)] 73)) 43 43 73 iw _ 5 56 Try.underlying43 wi wz0 wz1 wz2 (by rfl) (by decide)
    (.slice ra L.length rc) L.length (L.flatMap wcc) (ownsRow_fr HO.out (FB.alloc _) (fun _ x => x.elim)) (.slice (some ⟨w2.heap.size, 0, none⟩) 1 1) 1 (wcc (⟨ad, by_, bs, N⟩, .slice a2 bs.length c2)) (Rd.new (t := 73) (by rw [heap_alloc]; exact if_pos rfl) 5 1 rfl) (wcc_one _ _ _ _ rfl) (by simp only [maxLen]; omega) (by omega)
  obtain ⟨a3, c3, rfl⟩ := ownsRow_form o6
  have hne : ¬ (some r = (Value.slice ra L.length rc).ownBlock) := fun e => HO2.out r e.symm rfl
  have E6 := f6.at ((FB.alloc _).at HC.out (fun x => x)) hne
  have s0 := cell_blk E6 0
  have s1 := free_blk E6 0
  have q0 := cell_through F5 x0 (fun x => x)
  have q1 := cell_through F5 x1 (fun x => x)
  have qr := cell_through F5 xr (fun x => x)
  have F6 : Fr (fun b => some b = (Value.slice ra L.length rc).ownBlock) w2 w3 := (((Fr.refl (fun _ => False) w2).alloc _).mono (T := fun b => some b = (Value.slice ra L.length rc).ownBlock) (fun _ _ x => x.elim)).trans f6 (fun _ _ x => x)
  have hXo : ¬ (some X = (Value.slice ra L.length rc).ownBlock) := fun e => by have := HO3.out X e.symm; have := HX.out.1; omega
  have y0 := cell_through F6 q0 hXo
  have y1 := cell_through F6 q1 hXo
  have z0 : (w3.setCell ⟨r, 0, none⟩ (.slice a3 (L.length + 1) c3)).cell? ⟨X, 0, none⟩ = _ := (World.cell?_of_block (heap_setCell_ne (Ne.symm hrX))).trans y0
  have z1 : (w3.setCell ⟨r, 0, none⟩ (.slice a3 (L.length + 1) c3)).cell? ⟨X, 1, none⟩ = _ := (World.cell?_of_block (heap_setCell_ne (Ne.symm hrX))).trans y1
  have hw2r : r < w2.heap.size := lt_blk (FB.at HC.out (fun x => x))
  have hw2X : X < w2.heap.size := World.block_lt_of_cell? _ _ q0
  have hWX : X < W.heap.size := World.block_lt_of_cell? _ _ x0
  have hWr : r < W.heap.size := World.block_lt_of_cell? _ _ xr
  have FIN := Lib.hid (PI.out w2 w3 a2 a3 c2 c3 FB own2 (((Fr.refl _ w2).alloc _).trans f6 (fun _ _ x => x)) o6 (fun g hg => by
    rcases g6 g hg with h | h
    · exact .inl h
    · rw [size_alloc] at h; exact .inr (by omega)))
  clear hW hX hXb cp fa hnew o5 f5 g5 own2 F5 F6 FB o6 f6 g6 hne E6 hR5 R5 hXo
  go_region_law ((first
    | (refine step_plain (by rfl) (wp_append_row _ _ 43 (by rfl) (by rfl) (by rfl) r6 ?_))
    | (refine step_plain (by rfl) (wp_append_row _ _ 22 (by rfl) (by rfl) (by rfl) r5 ?_))))
  all_goals
    go_wp2_with fail
    go_ret
    exact ⟨rfl, FIN⟩

set_option maxHeartbeats 2000000 in
theorem clear_no {r : Nat} (w : World) (addr bytes : Nat) (ha : addr ≤ 18446744073709551615) (hb : bytes ≤ 18446744073709551615) (hR : ¬ Right addr bytes) :
    Calls Try.prog 21 #[.pointer (some ⟨r, 0, none⟩), .int .u64 addr, .int .u64 bytes] w fun e w' => e = .returned (.int .i64 1) ∧ w = w' := by
  have hr := Lib.hid (right_any w addr bytes ha hb)
  rw [decide_eq_false hR] at hr
  clear hR
  go_enter Try.func21, Try.ntmps21
  go_wp2_with (first | (go_at_call 26; refine hr.out.mono ?_; rintro e w1 ⟨rfl, rfl⟩))
  go_ret
  exact ⟨rfl, rfl⟩

end Go.Proofs.Ytcnnibhipjkgiaa.Rf
