/-
  Part 1 of what the statement leans on: Mem, Row, Flat, Hp, Maps, HpMap.
-/
import Derived.Test.YtnjaaagiindclaaGreatDoorRows
import Derived.WalkKit
import Derived.WalkSpells
import Derived.WalkLawsBesides
import Derived.Lib.Hide
import Derived.Laws.AppendOwnNone
import Derived.Deep.Slices
import Derived.Maps.OwnOps
import Derived.Maps.OwnSet
import Derived.Maps.RangeWalk
import Derived.Maps.RangeRun
/-
  Plain facts about memory (worlds, blocks, frames), over any program. No condition.
-/
namespace Go.Proofs.YtnjaaagiindclaaGreatDoor
open Go.RowKit

/-- a cell out of a known block -/
theorem cell_blk {w : World} {b : Nat} {c : Array Value} {t : TypeId} {f : Nat × Nat} (h : w.heap[b]? = some (.cells c t f)) (i : Nat) :
    w.cell? ⟨b, i, none⟩ = c[i]? := by simp [World.cell?, h]
theorem free_blk {w : World} {b : Nat} {c : Array Value} {t : TypeId} (h : w.heap[b]? = some (.cells c t (0, 0))) (i : Nat) :
    w.frozen? ⟨b, i, none⟩ = false := by simp [World.frozen?, h]
theorem blk2 {w : World} {b : Nat} {x0 x1 : Value} {t : TypeId} (h : w.heap[b]? = some (.cells #[x0, x1] t (0, 0))) :
    w.cell? ⟨b, 0, none⟩ = some x0 ∧ w.cell? ⟨b, 1, none⟩ = some x1 := ⟨cell_blk h 0, cell_blk h 1⟩
theorem blk3 {w : World} {b : Nat} {x0 x1 x2 : Value} {t : TypeId} (h : w.heap[b]? = some (.cells #[x0, x1, x2] t (0, 0))) :
    w.cell? ⟨b, 0, none⟩ = some x0 ∧ w.cell? ⟨b, 1, none⟩ = some x1 ∧ w.cell? ⟨b, 2, none⟩ = some x2 := ⟨cell_blk h 0, cell_blk h 1, cell_blk h 2⟩
theorem blk4 {w : World} {b : Nat} {x0 x1 x2 x3 : Value} {t : TypeId} (h : w.heap[b]? = some (.cells #[x0, x1, x2, x3] t (0, 0))) :
    w.cell? ⟨b, 0, none⟩ = some x0 ∧ w.cell? ⟨b, 1, none⟩ = some x1 ∧ w.cell? ⟨b, 2, none⟩ = some x2 ∧ w.cell? ⟨b, 3, none⟩ = some x3 :=
  ⟨cell_blk h 0, cell_blk h 1, cell_blk h 2, cell_blk h 3⟩

theorem heap_setCell (w : World) (a : Addr) (v : Value) (k : Nat) : (w.setCell a v).heap[k]? =
    if k = a.block then (w.heap[k]?).map (fun | .cells c elem fr => .cells (if a.spot.isSome then c else c.setIfInBounds a.off v) elem fr | o => o) else w.heap[k]? := by
  show (w.heap.modify a.block _)[k]? = _
  rw [Array.getElem?_modify]
  by_cases h : a.block = k
  · subst h; simp; rfl
  · rw [if_neg h, if_neg (fun e => h e.symm)]
theorem heap_setCell_ne {w : World} {a : Addr} {v : Value} {k : Nat} (h : k ≠ a.block) : (w.setCell a v).heap[k]? = w.heap[k]? := by
  rw [heap_setCell, if_neg h]
theorem heap_setCell_at {w : World} {b i : Nat} {v : Value} {c : Array Value} {t : TypeId} {f : Nat × Nat} (h : w.heap[b]? = some (.cells c t f)) :
    (w.setCell ⟨b, i, none⟩ v).heap[b]? = some (.cells (c.setIfInBounds i v) t f) := by
  rw [heap_setCell, if_pos rfl, h]; rfl
theorem size_setCell (w : World) (a : Addr) (v : Value) : (w.setCell a v).heap.size = w.heap.size := by simp [World.setCell]
theorem heap_alloc_ne {w : World} {o : Obj} {k : Nat} (h : k < w.heap.size) : (w.alloc o).heap[k]? = w.heap[k]? := Below.heap_alloc w o k h
theorem heap_alloc (w : World) (o : Obj) (k : Nat) : (w.alloc o).heap[k]? = if k = w.heap.size then some o else w.heap[k]? := by
  show (w.heap.push o)[k]? = _
  rw [Array.getElem?_push]
theorem size_alloc (w : World) (o : Obj) : (w.alloc o).heap.size = w.heap.size + 1 := by
  show (w.heap.push o).size = _
  simp
theorem lt_blk {w : World} {b : Nat} {o : Obj} (h : w.heap[b]? = some o) : b < w.heap.size := lt_of_block h

/-- What a call may do: blocks outside of S that were there are as they were; the streams too. -/
structure Fr (S : Nat → Prop) (w w' : World) : Prop where
  os : w'.os = w.os
  tape : w'.tape = w.tape
  output : w'.output = w.output
  size : w.heap.size ≤ w'.heap.size
  same : ∀ b, b < w.heap.size → ¬ S b → w'.heap[b]? = w.heap[b]?

theorem Fr.refl (S : Nat → Prop) (w : World) : Fr S w w := ⟨rfl, rfl, rfl, Nat.le_refl _, fun _ _ _ => rfl⟩
theorem Fr.mono {S T : Nat → Prop} {w w' : World} (h : Fr S w w') (hs : ∀ b, b < w.heap.size → S b → T b) : Fr T w w' :=
  ⟨h.os, h.tape, h.output, h.size, fun b hb hn => h.same b hb (fun hS => hn (hs b hb hS))⟩
theorem Fr.trans {S T : Nat → Prop} {u v w : World} (h : Fr S u v) (k : Fr T v w) (hT : ∀ b, b < u.heap.size → T b → S b) : Fr S u w :=
  ⟨k.os.trans h.os, k.tape.trans h.tape, k.output.trans h.output, Nat.le_trans h.size k.size,
   fun b hb hn => (k.same b (Nat.lt_of_lt_of_le hb h.size) (fun ht => hn (hT b hb ht))).trans (h.same b hb hn)⟩
theorem Fr.drewN {S : Nat → Prop} {u v : World} (h : Fr S u v) (n : Nat) : Fr S u (v.drewN n) := ⟨h.os, h.tape, h.output, h.size, h.same⟩
theorem Fr.drew {S : Nat → Prop} {u v : World} (h : Fr S u v) : Fr S u v.drew := ⟨h.os, h.tape, h.output, h.size, h.same⟩
theorem Fr.alloc {S : Nat → Prop} {u v : World} (h : Fr S u v) (o : Obj) : Fr S u (v.alloc o) :=
  ⟨h.os, h.tape, h.output, Nat.le_trans h.size (by simp), fun b hb hn => (Below.heap_alloc v o b (Nat.lt_of_lt_of_le hb h.size)).trans (h.same b hb hn)⟩
theorem Fr.setCell {S : Nat → Prop} {u v : World} (h : Fr S u v) (p : Addr) (x : Value) (hp : S p.block ∨ u.heap.size ≤ p.block) : Fr S u (v.setCell p x) :=
  ⟨h.os, h.tape, h.output, by rw [size_setCell]; exact h.size, fun b hb hn => (heap_setCell_ne (fun e => by
    subst e
    rcases hp with hp | hp
    · exact hn hp
    · omega)).trans (h.same b hb hn)⟩
theorem Fr.at {S : Nat → Prop} {w w' : World} (h : Fr S w w') {b : Nat} {o : Obj} (hb : w.heap[b]? = some o) (hn : ¬ S b) : w'.heap[b]? = some o :=
  (h.same b (lt_blk hb) hn).trans hb
theorem Fr.below {S : Nat → Prop} {w w' : World} (h : Fr S w w') {B : Nat} (hB : B ≤ w.heap.size) (hS : ∀ b, S b → B ≤ b) : Below B w w' :=
  ⟨h.os, h.tape, h.output, h.size, fun b hb => h.same b (by omega) (fun hs => by have := hS b hs; omega)⟩
theorem Below.fr {w w' : World} (h : Below w.heap.size w w') (S : Nat → Prop) : Fr S w w' := ⟨h.os, h.tape, h.output, h.size, fun b hb _ => h.block b hb⟩
theorem Fr.grownBy {w w' : World} {row : Option Nat} (h : w.grownBy w' row) : Fr (fun b => some b = row) w w' :=
  ⟨h.os, h.tape, h.output, h.size, fun b hb hn => h.block b hb hn⟩

theorem Fr.grown {S : Nat → Prop} {u v v' : World} {e : TypeId} {sz n : Nat} {x : Value} {xs : List Value} (h : Fr S u v) (hg : v.grownBy v' x.ownBlock) (ho : v.ownsRow u.heap.size e sz x n xs) : Fr S u v' :=
  h.trans (Fr.grownBy hg) (fun b hb e => by have := ho.lt b e.symm; omega)

/-- the cells of a block that was just made -/
theorem cells_new (w : World) (vs : List Value) (t : TypeId) : ∀ j u, vs[j]? = some u → (w.alloc (.cells vs.toArray t)).cell? ((⟨w.heap.size, 0, none⟩ : Addr).add j) = some u := by
  intro j u hu
  have : (⟨w.heap.size, 0, none⟩ : Addr).add j = ⟨w.heap.size, j, none⟩ := by unfold Addr.add; split <;> simp_all
  rw [this, cell_blk (by rw [heap_alloc, if_pos rfl])]
  simpa using hu

/-- a slice of new memory is returned -/
def RetRow (T sz n : Nat) (xs : List Value) (w : World) (e : Ending) (w' : World) : Prop :=
  ∃ a c, e = .returned (.slice a n c) ∧ w'.ownsRow w.heap.size T sz (.slice a n c) n xs ∧ Fr (fun _ => False) w w'

/-- a slice of new memory is returned; what S names may have turned; I holds -/
def RetRowI (T sz n : Nat) (xs : List Value) (S : Nat → Prop) (I : World → Prop) (w : World) (e : Ending) (w' : World) : Prop :=
  ∃ a c, e = .returned (.slice a n c) ∧ w'.ownsRow w.heap.size T sz (.slice a n c) n xs ∧ Fr S w w' ∧ I w'

theorem ownsRow_fr {S : Nat → Prop} {w w' : World} {B T sz n : Nat} {v : Value} {xs : List Value} (h : w.ownsRow B T sz v n xs) (hf : Fr S w w') (hS : ∀ b, S b → b < B) : w'.ownsRow B T sz v n xs := by
  refine ⟨h.1, ?_⟩
  rcases h.2 with h2 | ⟨g, cap, cur, hv, hg, hh, r⟩
  · exact .inl h2
  · exact .inr ⟨g, cap, cur, hv, hg, hf.at hh (fun hs => by have := hS g hs; omega), r⟩

theorem ownsRow_mono {w : World} {B B' T sz n : Nat} {v : Value} {xs : List Value} (h : w.ownsRow B T sz v n xs) (hB : B' ≤ B) : w.ownsRow B' T sz v n xs := by
  refine ⟨h.1, ?_⟩
  rcases h.2 with h2 | ⟨g, cap, cur, hv, hg, r⟩
  · exact .inl h2
  · exact .inr ⟨g, cap, cur, hv, by omega, r⟩

theorem ownsRow_form {w : World} {B T sz n : Nat} {v : Value} {xs : List Value} (h : w.ownsRow B T sz v n xs) : ∃ a c, v = .slice a n c := by
  rcases h.2 with ⟨rfl, rfl⟩ | ⟨g, cap, cur, rfl, _⟩
  · exact ⟨_, _, rfl⟩
  · exact ⟨_, _, rfl⟩

theorem RetRow.mk' {T sz n m : Nat} {xs ys : List Value} {w w' : World} {v : Value} (h : w'.ownsRow w.heap.size T sz v n xs) (hf : Fr (fun _ => False) w w') (hn : n = m) (hx : xs = ys) :
    RetRow T sz m ys w (.returned v) w' := by
  subst hn hx
  obtain ⟨a, c, rfl⟩ := ownsRow_form h
  exact ⟨a, c, rfl, h, hf⟩

/-- a slice value of n elements of sz cells that reads as xs -/
def Rd (w : World) (sz : Nat) (v : Value) (n : Nat) (xs : List Value) : Prop :=
  ∃ a c, v = .slice a n c ∧ n ≤ c ∧ xs.length = n * sz ∧ (a = none → c = 0) ∧ ∀ j u, xs[j]? = some u → ∃ ad, a = some ad ∧ w.cell? (ad.add j) = some u

theorem ownsRow_rd {w : World} {B T sz n : Nat} {v : Value} {xs : List Value} (h : w.ownsRow B T sz v n xs) : Rd w sz v n xs := by
  rcases h.2 with ⟨rfl, rfl⟩ | ⟨g, cap, cur, rfl, _, hg, hn, _, _, ht⟩
  · refine ⟨none, 0, rfl, Nat.le_refl _, h.1, fun _ => rfl, ?_⟩
    have : xs = [] := List.eq_nil_of_length_eq_zero (by simpa using h.1)
    subst this; simp
  · refine ⟨_, cap, rfl, hn, h.1, (fun e => by cases e), fun j u hu => ⟨_, rfl, ?_⟩⟩
    exact World.ownsRow.cells h (by rfl) j u hu

theorem Rd.to {w : World} {sz n c : Nat} {a : Option Addr} {xs : List Value} (h : Rd w sz (.slice a n c) n xs) {k : Nat} (hk : k ≤ n) : Rd w sz (.slice a k c) k (xs.take (k * sz)) := by
  obtain ⟨a', c', hv, hc, hl, hn, hx⟩ := h
  simp only [Value.slice.injEq] at hv
  obtain ⟨rfl, _, rfl⟩ := hv
  refine ⟨a, c, rfl, by omega, ?_, hn, fun j u hu => ?_⟩
  · rw [List.length_take, hl]; exact Nat.min_eq_left (Nat.mul_le_mul_right _ hk)
  · rw [List.getElem?_take] at hu
    split at hu
    · exact hx j u hu
    · cases hu

theorem addr_add_zero (a : Addr) : a.add 0 = a := by simp [Addr.add]

theorem Rd.from {w : World} {sz n c : Nat} {a : Option Addr} {xs : List Value} (h : Rd w sz (.slice a n c) n xs) {k : Nat} (hk : k ≤ n) : Rd w sz (sliced a k n c sz) (n - k) (xs.drop (k * sz)) := by
  obtain ⟨a', c', hv, hc, hl, hn, hx⟩ := h
  simp only [Value.slice.injEq] at hv
  obtain ⟨rfl, _, rfl⟩ := hv
  refine ⟨_, _, rfl, by omega, by rw [List.length_drop, hl, Nat.sub_mul], ?_, fun j u hu => ?_⟩
  · intro h0
    split at h0
    · omega
    · have : a = none := by simpa using h0
      have := hn this; omega
  · rw [List.getElem?_drop] at hu
    obtain ⟨ad, rfl, h1⟩ := hx _ u hu
    have hlt : k * sz + j < n * sz := by rw [← hl]; exact (List.getElem?_eq_some_iff.1 hu).1
    have hkn : k < n := by
      rcases Nat.lt_or_ge k n with h | h
      · exact h
      · have := Nat.mul_le_mul_right sz h; omega
    rw [if_neg (by omega)]
    refine ⟨_, rfl, ?_⟩
    rw [Go.Deep.add_add]; exact h1

/-- an empty row just made -/
theorem ownsRow_empty {w : World} {B g : Nat} {e : TypeId} (sz : Nat) (hg : w.heap[g]? = some (.cells #[] e (0, 0))) (hB : B ≤ g) : w.ownsRow B e sz (.slice (some ⟨g, 0, none⟩) 0 0) 0 [] :=
  ⟨by simp, .inr ⟨g, 0, #[], rfl, hB, hg, Nat.le_refl _, by simp [maxLen], by simp, by simp⟩⟩
theorem Fr.of_drewN (S : Nat → Prop) (w : World) (n : Nat) : Fr S w (w.drewN n) := (Fr.refl S w).drewN n

/-- a block's cells known one by one: a slice over them -/
theorem Rd.new {w : World} {g : Nat} {vs : List Value} {t : TypeId} (hg : w.heap[g]? = some (.cells vs.toArray t (0, 0))) (sz n : Nat) (hl : vs.length = n * sz) : Rd w sz (.slice (some ⟨g, 0, none⟩) n n) n vs := by
  refine ⟨_, _, rfl, Nat.le_refl _, hl, (fun e => by cases e), fun j u hu => ⟨_, rfl, ?_⟩⟩
  have : (⟨g, 0, none⟩ : Addr).add j = ⟨g, j, none⟩ := by unfold Addr.add; split <;> simp_all
  rw [this, cell_blk hg]
  simpa using hu

theorem Rd.fr {S : Nat → Prop} {w w' : World} {sz n : Nat} {v : Value} {xs : List Value} (h : Rd w sz v n xs) (hf : Fr S w w') (hS : ∀ a, (∃ c, v = .slice (some a) n c) → ¬ S a.block) : Rd w' sz v n xs := by
  obtain ⟨a, c, rfl, hn, hl, h0, hx⟩ := h
  refine ⟨a, c, rfl, hn, hl, h0, fun j u hu => ?_⟩
  obtain ⟨ad, rfl, hc⟩ := hx j u hu
  refine ⟨ad, rfl, ?_⟩
  have hlt := World.block_lt_of_cell? _ _ hc
  have hb : (ad.add j).block = ad.block := by unfold Addr.add; split <;> rfl
  rw [World.cell?_of_block (w := w) (w' := w') (hf.same _ hlt (by rw [hb]; exact hS ad ⟨c, rfl⟩))]
  exact hc

/-- append of what reads as a row to an own row -/
theorem wpList_append_rd {P : Program} {w w0 : World} {S : Nat → Prop} {ops : Array Oper} {rest : List Oper} {o : Oper} {a : Act} {Q : Exit → Act → World → Prop} (hgd : o.guard = none) (s x : Operand) (t : TypeId)
    (ho : o.op = .call { callee := .builtin .append, args := #[s, x], argTypes := #[t, t] })
    (e : TypeId) (i : TypeInfo) (z : Value) (size bytes : Nat) (ht : P.underlying t = some (.slice e)) (hi : P.info? e = some i) (hz : i.zero = some z)
    (hsize : i.size = size) (hby : i.bytes = bytes) (hzs : z.cells.size = size) (hsz : 0 < size)
    (v : Value) (n : Nat) (xs : List Value) (hs : a.eval s = v) (hown : w.ownsRow w0.heap.size e size v n xs) (hfr : Fr S w0 w)
    (u : Value) (m : Nat) (news : List Value) (hx : a.eval x = u) (hrd : Rd w size u m news) (h1 : ∀ u ∈ news, u.oneCell' = true)
    (h63 : n + m ≤ maxLen) (hbytes : (n + m) * bytes ≤ 140737488355328)
    (h : ∀ v' w', w'.ownsRow w0.heap.size e size v' (n + m) (xs ++ news) → Fr S w0 w' → Fr (fun b => some b = v.ownBlock) w w' → wpList P ops Q rest (a.put o.dst v') w') : wpList P ops Q (o :: rest) a w := by
  obtain ⟨ad, c, rfl, hmc, hl, hnone, hcells⟩ := hrd
  cases ad with
  | none =>
    have hc := hnone rfl
    have hm : m = 0 := by omega
    subst hc hm
    have hnews : news = [] := List.eq_nil_of_length_eq_zero (by simpa using hl)
    subst hnews
    exact wpList_append_own_none hgd s x t ho w0.heap.size e i size ht hi v n xs hs hown hx (h v w (by simpa using hown) hfr (Fr.refl _ _))
  | some ad =>
    exact wpList_append_own w hgd s x t ho w0.heap.size e i z size bytes ht hi hz hsize hby hzs hsz v n xs hs hown ad m c news hx hl
      (fun j u hu => by obtain ⟨ad', he, hc⟩ := hcells j u hu; cases he; exact hc) h1 h63 hbytes hfr.size
      (fun v' w' h2 h3 _ => h v' w' h2 (hfr.grown h3 hown) (Fr.grownBy h3))

/-- x[:k] -/
theorem wpList_slice_to {P : Program} {w : World} {ops : Array Oper} {rest : List Oper} {o : Oper} {a : Act} {Q : Exit → Act → World → Prop} (hgd : o.guard = none) (x hi : Operand) (t : TypeId)
    (ho : o.op = .slice t x none (some hi) none) (e : TypeId) (i : TypeInfo) (ht : P.underlying t = some (.slice e)) (hi' : P.info? e = some i)
    (ad : Option Addr) (n c : Nat) (hx : a.eval x = .slice ad n c) (kk : IntKind) (k : Nat) (hk : a.eval hi = .int kk (k : Int)) (hkc : k ≤ c)
    (h : wpList P ops Q rest (a.put o.dst (.slice ad k c)) w) : wpList P ops Q (o :: rest) a w := by
  have he : P.elem t = e := by simp [Program.elem, ht]
  refine wpList_plain hgd fun K hK => ?_
  have hrun : (Instr.sliceAt t (.slice ad n c) none (some (.int kk (k : Int))) none).run P w = .ok (.slice ad k c) w := by
    rw [run_sliceAt_slice (P := P) (w := w) t _ _ _ _ (by rw [he]; exact ht), run_slice_h (P := P) (w := w) t ad n c (by rw [he]; exact ht) kk k (by omega) (by omega)]
    simp [sizeOf, typeInfo, he, hi', sliced, addr_add_zero, Result.andThen]
  unfold Oper.wp
  simp [execOp, ho, hx, hk, hrun, Result.andThen]
  exact hK _ _ h

/-- x[k:] -/
theorem wpList_slice_from {P : Program} {w : World} {ops : Array Oper} {rest : List Oper} {o : Oper} {a : Act} {Q : Exit → Act → World → Prop} (hgd : o.guard = none) (x lo : Operand) (t : TypeId)
    (ho : o.op = .slice t x (some lo) none none) (e : TypeId) (i : TypeInfo) (sz : Nat) (ht : P.underlying t = some (.slice e)) (hi' : P.info? e = some i) (hsz : i.size = sz)
    (ad : Option Addr) (n c : Nat) (hx : a.eval x = .slice ad n c) (xs : List Value) (hrd : Rd w sz (.slice ad n c) n xs) (kk : IntKind) (k : Nat) (hk : a.eval lo = .int kk (k : Int)) (hkc : k ≤ n)
    (h : ∀ v', Rd w sz v' (n - k) (xs.drop (k * sz)) → wpList P ops Q rest (a.put o.dst v') w) : wpList P ops Q (o :: rest) a w := by
  have he : P.elem t = e := by simp [Program.elem, ht]
  refine wpList_plain hgd fun K hK => ?_
  have hrun : (Instr.sliceAt t (.slice ad n c) (some (.int kk (k : Int))) none none).run P w = .ok (sliced ad k n c sz) w := by
    rw [run_sliceAt_slice (P := P) (w := w) t _ _ _ _ (by rw [he]; exact ht), run_slice_l (P := P) (w := w) t ad n c (by rw [he]; exact ht) kk k (by omega) (by omega)]
    simp [sizeOf, typeInfo, he, hi', hsz, Result.andThen]
  unfold Oper.wp
  simp [execOp, ho, hx, hk, hrun, Result.andThen]
  exact hK _ _ (h _ (hrd.from hkc))

/-- a law at an operation, at a step of a region that draws -/
theorem step_plain {P : Program} {ops : Array Oper} {o : Oper} {a : Act} {w : World} {K : Act → World → Prop} {Q : Exit → Act → World → Prop} {E : Prop} (hgd : o.guard = none) (h : Oper.wp P o a w K Q) :
    if Region.wanted o (yielded ops a.tmps) = true then Oper.wp P o a w K Q else E := by
  rw [if_pos (by simp [Region.wanted, hgd])]; exact h

/-- x[:k] and x[:k:m], as they run -/
theorem run_to {P : Program} (t e : TypeId) (i : TypeInfo) (ht : P.underlying t = some (.slice e)) (hi' : P.info? e = some i) (ad : Option Addr) (n c : Nat) (kk : IntKind) (k : Nat) (hkc : k ≤ c) :
    ∀ w : World, (Instr.slice t (.slice ad n c) none (some (.int kk (k : Int))) none).run P w = .ok (.slice ad k c) w := by
  intro w
  have he : P.elem t = e := by simp [Program.elem, ht]
  rw [run_slice_h (P := P) (w := w) t ad n c (by rw [he]; exact ht) kk k (by omega) (by omega)]
  simp [sizeOf, typeInfo, he, hi', sliced, addr_add_zero, Result.andThen]
theorem run_to3 {P : Program} (t e : TypeId) (i : TypeInfo) (ht : P.underlying t = some (.slice e)) (hi' : P.info? e = some i) (ad : Option Addr) (n c : Nat) (kk km : IntKind) (k m : Nat) (hkm : k ≤ m) (hmc : m ≤ c) :
    ∀ w : World, (Instr.slice t (.slice ad n c) none (some (.int kk (k : Int))) (some (.int km (m : Int)))).run P w = .ok (.slice ad k m) w := by
  intro w
  have he : P.elem t = e := by simp [Program.elem, ht]
  rw [run_slice_hm (P := P) (w := w) t ad n c (by rw [he]; exact ht) kk km k m (by omega) (by omega) (by omega)]
  simp [sizeOf, typeInfo, he, hi', sliced, addr_add_zero, Result.andThen]

/-- x[:k] and x[:k:m], at the operation -/
theorem wp_slice_to {P : Program} {w : World} {o : Oper} {a : Act} {K : Act → World → Prop} {Q : Exit → Act → World → Prop} (x hi : Operand) (t : TypeId)
    (ho : o.op = .slice t x none (some hi) none) (e : TypeId) (i : TypeInfo) (ht : P.underlying t = some (.slice e)) (hi' : P.info? e = some i)
    (ad : Option Addr) (n c : Nat) (hx : a.eval x = .slice ad n c) (kk : IntKind) (k : Nat) (hk : a.eval hi = .int kk (k : Int)) (hkc : k ≤ c)
    (h : K (a.put o.dst (.slice ad k c)) w) : o.wp P a w K Q := by
  have he : P.elem t = e := by simp [Program.elem, ht]
  have hrun : (Instr.sliceAt t (.slice ad n c) none (some (.int kk (k : Int))) none).run P w = .ok (.slice ad k c) w := by
    rw [run_sliceAt_slice (P := P) (w := w) t _ _ _ _ (by rw [he]; exact ht), run_slice_h (P := P) (w := w) t ad n c (by rw [he]; exact ht) kk k (by omega) (by omega)]
    simp [sizeOf, typeInfo, he, hi', sliced, addr_add_zero, Result.andThen]
  unfold Oper.wp
  simp [execOp, ho, hx, hk, hrun, Result.andThen]
  exact h
theorem wp_slice_to3 {P : Program} {w : World} {o : Oper} {a : Act} {K : Act → World → Prop} {Q : Exit → Act → World → Prop} (x hi mx : Operand) (t : TypeId)
    (ho : o.op = .slice t x none (some hi) (some mx)) (e : TypeId) (i : TypeInfo) (ht : P.underlying t = some (.slice e)) (hi' : P.info? e = some i)
    (ad : Option Addr) (n c : Nat) (hx : a.eval x = .slice ad n c) (kk km : IntKind) (k m : Nat) (hk : a.eval hi = .int kk (k : Int)) (hm : a.eval mx = .int km (m : Int)) (hkm : k ≤ m) (hmc : m ≤ c)
    (h : K (a.put o.dst (.slice ad k m)) w) : o.wp P a w K Q := by
  have he : P.elem t = e := by simp [Program.elem, ht]
  have hrun : (Instr.sliceAt t (.slice ad n c) none (some (.int kk (k : Int))) (some (.int km (m : Int)))).run P w = .ok (.slice ad k m) w := by
    rw [run_sliceAt_slice (P := P) (w := w) t _ _ _ _ (by rw [he]; exact ht), run_slice_hm (P := P) (w := w) t ad n c (by rw [he]; exact ht) kk km k m (by omega) (by omega) (by omega)]
    simp [sizeOf, typeInfo, he, hi', sliced, addr_add_zero, Result.andThen]
  unfold Oper.wp
  simp [execOp, ho, hx, hk, hm, hrun, Result.andThen]
  exact h

/-- append of what reads as a row to an own row, at the operation -/
theorem wp_append_rd {P : Program} {w w0 : World} {S : Nat → Prop} {o : Oper} {a : Act} {K : Act → World → Prop} {Q : Exit → Act → World → Prop} (s x : Operand) (t : TypeId)
    (ho : o.op = .call { callee := .builtin .append, args := #[s, x], argTypes := #[t, t] })
    (e : TypeId) (i : TypeInfo) (z : Value) (size bytes : Nat) (ht : P.underlying t = some (.slice e)) (hi : P.info? e = some i) (hz : i.zero = some z)
    (hsize : i.size = size) (hby : i.bytes = bytes) (hzs : z.cells.size = size) (hsz : 0 < size)
    (v : Value) (n : Nat) (xs : List Value) (hs : a.eval s = v) (hown : w.ownsRow w0.heap.size e size v n xs) (hfr : Fr S w0 w)
    (u : Value) (m : Nat) (news : List Value) (hx : a.eval x = u) (hrd : Rd w size u m news) (h1 : ∀ u ∈ news, u.oneCell' = true)
    (h63 : n + m ≤ maxLen) (hbytes : (n + m) * bytes ≤ 140737488355328)
    (h : ∀ v' w', w'.ownsRow w0.heap.size e size v' (n + m) (xs ++ news) → Fr S w0 w' → Fr (fun b => some b = v.ownBlock) w w' → K (a.put o.dst v') w') : o.wp P a w K Q := by
  obtain ⟨ad, c, rfl, hmc, hl, hnone, hcells⟩ := hrd
  cases ad with
  | none =>
    have hc := hnone rfl
    have hm : m = 0 := by omega
    subst hc hm
    have hnews : news = [] := List.eq_nil_of_length_eq_zero (by simpa using hl)
    subst hnews
    have hrun := run_append_owned_none (P := P) (w := w) w0.heap.size t o.type e i size ht hi v n xs hown
    unfold Oper.wp
    simp [execOp, ho, resolve, invoke, builtin, hs, hx, hrun, Result.andThen]
    exact h v w (by simpa using hown) hfr (Fr.refl _ _)
  | some ad =>
    exact wp_append_own w s x t ho w0.heap.size e i z size bytes ht hi hz hsize hby hzs hsz v n xs hs hown ad m c news hx hl
      (fun j u hu => by obtain ⟨ad', he, hc⟩ := hcells j u hu; cases he; exact hc) h1 h63 hbytes hfr.size
      (fun v' w' h2 h3 _ => h v' w' h2 (hfr.grown h3 hown) (Fr.grownBy h3))

/-- nothing is appended -/
theorem run_append_zero {P : Program} (w : World) (t ty e : TypeId) (i : TypeInfo) (ht : P.underlying t = some (.slice e)) (hi : P.info? e = some i) (a b : Option Addr) (n c c' : Nat) (hn : n ≤ c) :
    (Builtin.append_ #[t, t] ty #[.slice a n c, .slice b 0 c']).run P w = .ok (.slice a n c) w := by
  cases a <;> cases b <;> simp [Builtin.append_, run_underlying ht, sizeOf, typeInfo, hi, Builtin.lenOf, Builtin.firstCells, storeCells, hn, loadCells, loadCellsFrom]

/-- append onto a full slice: the old one, or a new row -/
theorem run_append_full {P : Program} (w : World) (t ty e : TypeId) (i : TypeInfo) (z : Value) (size bytes : Nat) (ht : P.underlying t = some (.slice e)) (hi : P.info? e = some i) (hz : i.zero = some z)
    (hsize : i.size = size) (hby : i.bytes = bytes) (hzs : z.cells.size = size) (hsz : 0 < size)
    (a : Option Addr) (n : Nat) (xs : List Value) (hd : Rd w size (.slice a n n) n xs) (u : Value) (m : Nat) (news : List Value) (hrd : Rd w size u m news) (h63 : n + m ≤ maxLen) (hbytes : (n + m) * bytes ≤ 140737488355328) :
    ∃ v' w', (Builtin.append_ #[t, t] ty #[.slice a n n, u]).run P w = .ok v' w' ∧ Rd w' size v' (n + m) (xs ++ news) ∧ Fr (fun _ => False) w w' := by
  subst hsize hby
  obtain ⟨b, c, rfl, hmc, hl, hnone, hcells⟩ := hrd
  have hd' := hd
  obtain ⟨a', c', hv, _, hl', hn', hx⟩ := hd
  simp only [Value.slice.injEq] at hv
  obtain ⟨rfl, _, rfl⟩ := hv
  have h47 : n + m ≤ 9223372036854775807 := by simp only [maxLen] at h63; omega
  by_cases hm : m = 0
  · subst hm
    have hnews : news = [] := List.eq_nil_of_length_eq_zero (by simpa using hl)
    subst hnews
    exact ⟨_, w, run_append_zero w t ty e i ht hi a b n n c (Nat.le_refl _), by simpa using hd', Fr.refl _ _⟩
  · cases b with
    | none => have := hnone rfl; omega
    | some b =>
      have hnews : ∀ j v, news[j]? = some v → w.cell? (b.add j) = some v := fun j v hj => by obtain ⟨ad, he, hc⟩ := hcells j v hj; cases he; exact hc
      cases a with
      | none =>
        have h0 := hn' rfl
        subst h0
        have hxs : xs = [] := List.eq_nil_of_length_eq_zero (by simpa using hl')
        subst hxs
        have hr := run_append_nil (P := P) w t ty e i z ht hi hz b m c news hl hnews (by omega) (by omega) (by have hb := hbytes; simp only [Nat.zero_add] at hb; omega)
        have hge := grownCap_ge w m 0 e
        refine ⟨_, _, hr, ⟨some ⟨w.heap.size, 0, none⟩, grownCap w m 0 e, by rw [Nat.zero_add], by simpa using hge, by simpa using hl, (fun e => by cases e), fun j v hj => ⟨_, rfl, ?_⟩⟩, ⟨rfl, rfl, rfl, by simp, fun k hk _ => Below.heap_alloc _ _ k hk⟩⟩
        have hadd : (⟨w.heap.size, 0, none⟩ : Addr).add j = ⟨w.heap.size, j, none⟩ := by unfold Addr.add; split <;> simp_all
        rw [hadd, cell_blk (w := w.drew.alloc _) (b := w.heap.size) (by rw [heap_alloc]; exact if_pos rfl)]
        simp only [List.nil_append] at hj
        rw [Array.getElem?_append_left (by have := (List.getElem?_eq_some_iff.1 hj).1; simpa using this)]
        simpa using hj
      | some a =>
        have holds : ∀ j v, xs[j]? = some v → w.cell? (a.add j) = some v := fun j v hj => by obtain ⟨ad, he, hc⟩ := hx j v hj; cases he; exact hc
        have hr := run_append_grow (P := P) w t ty e i z ht hi hz a n n xs hl' holds b m c news hl hnews (by omega) (by omega) (growslice_fits (by omega) hbytes)
        have hge := grownCap_ge w (n + m) n e
        refine ⟨_, _, hr, ⟨_, _, rfl, hge, by rw [List.length_append, hl, hl', Nat.add_mul], (fun e => by cases e), fun j v hj => ⟨_, rfl, ?_⟩⟩, ⟨rfl, rfl, rfl, by simp, fun k hk _ => Below.heap_alloc _ _ k hk⟩⟩
        have hadd : (⟨w.heap.size, 0, none⟩ : Addr).add j = ⟨w.heap.size, j, none⟩ := by unfold Addr.add; split <;> simp_all
        rw [hadd, cell_blk (w := w.drew.alloc _) (b := w.heap.size) (by rw [heap_alloc]; exact if_pos rfl)]
        rw [Array.getElem?_append_left (by have := (List.getElem?_eq_some_iff.1 hj).1; simpa using this)]
        simpa using hj

theorem wp_append_full {P : Program} {w : World} {o : Oper} {act : Act} {K : Act → World → Prop} {Q : Exit → Act → World → Prop} (s x : Operand) (t : TypeId)
    (ho : o.op = .call { callee := .builtin .append, args := #[s, x], argTypes := #[t, t] })
    (e : TypeId) (i : TypeInfo) (z : Value) (size bytes : Nat) (ht : P.underlying t = some (.slice e)) (hi : P.info? e = some i) (hz : i.zero = some z)
    (hsize : i.size = size) (hby : i.bytes = bytes) (hzs : z.cells.size = size) (hsz : 0 < size)
    (a : Option Addr) (n : Nat) (xs : List Value) (hs : act.eval s = .slice a n n) (hd : Rd w size (.slice a n n) n xs) (u : Value) (m : Nat) (news : List Value) (hx : act.eval x = u) (hrd : Rd w size u m news) (h63 : n + m ≤ maxLen) (hbytes : (n + m) * bytes ≤ 140737488355328)
    (h : ∀ a' c' w', Rd w' size (.slice a' (n + m) c') (n + m) (xs ++ news) → Fr (fun _ => False) w w' → K (act.put o.dst (.slice a' (n + m) c')) w') : o.wp P act w K Q := by
  obtain ⟨v', w', hr, h1, h2⟩ := run_append_full (P := P) w t o.type e i z size bytes ht hi hz hsize hby hzs hsz a n xs hd u m news hrd h63 hbytes
  unfold Oper.wp
  simp [execOp, ho, resolve, invoke, builtin, hs, hx, hr, Result.andThen]
  obtain ⟨a', c', rfl, _⟩ := id h1
  exact h a' c' w' h1 h2

theorem wp_append_zero {P : Program} {w : World} {o : Oper} {act : Act} {K : Act → World → Prop} {Q : Exit → Act → World → Prop} (s x : Operand) (t : TypeId)
    (ho : o.op = .call { callee := .builtin .append, args := #[s, x], argTypes := #[t, t] })
    (e : TypeId) (i : TypeInfo) (size : Nat) (ht : P.underlying t = some (.slice e)) (hi : P.info? e = some i)
    (v : Value) (n : Nat) (xs : List Value) (hs : act.eval s = v) (hd : Rd w size v n xs) (b : Option Addr) (c' : Nat) (hx : act.eval x = .slice b 0 c')
    (h : K (act.put o.dst v) w) : o.wp P act w K Q := by
  obtain ⟨a, c, rfl, hn, _⟩ := hd
  have hr := run_append_zero (P := P) w t o.type e i ht hi a b n c c' hn
  unfold Oper.wp
  simp [execOp, ho, resolve, invoke, builtin, hs, hx, hr, Result.andThen]
  exact h

/-- a list that is two lists in two ways -/
theorem mid_cases {α : Type} {xs ys xs' ys' : List α} {n r : α} (h : xs ++ n :: ys = xs' ++ r :: ys') :
    (∃ zs, ys = zs ++ r :: ys' ∧ xs' = xs ++ n :: zs) ∨ (xs' = xs ∧ r = n ∧ ys' = ys) ∨ (∃ bs, xs = xs' ++ r :: bs ∧ ys' = bs ++ n :: ys) := by
  rcases List.append_eq_append_iff.1 h with ⟨zs, h1, h2⟩ | ⟨bs, h1, h2⟩
  · cases zs with
    | nil => simp at h1 h2; exact .inr (.inl ⟨h1, h2.1.symm, h2.2.symm⟩)
    | cons a zs => simp at h2; obtain ⟨rfl, h2⟩ := h2; exact .inl ⟨zs, h2, h1⟩
  · cases bs with
    | nil => simp at h1 h2; exact .inr (.inl ⟨h1.symm, h2.1, h2.2⟩)
    | cons b bs => simp at h2; obtain ⟨rfl, h2⟩ := h2; exact .inr (.inr ⟨bs, h1, h2⟩)
end Go.Proofs.YtnjaaagiindclaaGreatDoor

/-
  Rows of one's own: appended to, cut. No program in sight.
-/
namespace Go.Proofs.YtnjaaagiindclaaGreatDoor
open Go.RowKit

theorem ownsRow_prefix {w : World} {B T sz n c : Nat} {a : Option Addr} {xs : List Value} (h : w.ownsRow B T sz (.slice a n c) n xs) {k : Nat} (hk : k ≤ n) : w.ownsRow B T sz (.slice a k c) k (xs.take (k * sz)) := by
  have hle : k * sz ≤ n * sz := Nat.mul_le_mul_right _ hk
  rcases h with ⟨hl, h | ⟨g, cap, cur, hv, hg, hb, hn, hcm, hcs, ht⟩⟩
  · obtain ⟨hv, rfl⟩ := h
    simp only [Value.slice.injEq] at hv
    obtain ⟨rfl, _, rfl⟩ := hv
    have : k = 0 := by omega
    subst this
    exact ⟨by simp, .inl ⟨rfl, rfl⟩⟩
  · simp only [Value.slice.injEq] at hv
    obtain ⟨rfl, _, rfl⟩ := hv
    refine ⟨by rw [List.length_take]; omega, .inr ⟨g, c, cur, rfl, hg, hb, by omega, hcm, hcs, ?_⟩⟩
    rw [← ht, List.take_take]
    congr 1; omega

/-- what is appended stands behind; the row's block is what it was, or new -/
theorem run_append_row {P : Program} {w : World} (t ty e : TypeId) (i : TypeInfo) (z : Value) (size bytes : Nat) (ht : P.underlying t = some (.slice e)) (hi : P.info? e = some i) (hz : i.zero = some z)
    (hsize : i.size = size) (hby : i.bytes = bytes) (hzs : z.cells.size = size) (hsz : 0 < size)
    (v : Value) (n : Nat) (xs : List Value) (hown : w.ownsRow 0 e size v n xs)
    (u : Value) (m : Nat) (news : List Value) (hrd : Rd w size u m news) (h1 : ∀ u ∈ news, u.oneCell' = true)
    (h63 : n + m ≤ maxLen) (hbytes : (n + m) * bytes ≤ 140737488355328) :
    ∃ v' w', (Builtin.append_ #[t, t] ty #[v, u]).run P w = .ok v' w' ∧ w'.ownsRow 0 e size v' (n + m) (xs ++ news) ∧ Fr (fun b => some b = v.ownBlock) w w' ∧
      ∀ g, v'.ownBlock = some g → v.ownBlock = some g ∨ w.heap.size ≤ g := by
  obtain ⟨ad, c, rfl, hmc, hl, hnone, hcells⟩ := hrd
  cases ad with
  | none =>
    have hc := hnone rfl
    have hm : m = 0 := by omega
    subst hc hm
    have hnews : news = [] := List.eq_nil_of_length_eq_zero (by simpa using hl)
    subst hnews
    exact ⟨v, w, run_append_owned_none (P := P) (w := w) 0 t ty e i size ht hi v n xs hown, by simpa using hown, Fr.refl _ _, fun g hg => .inl hg⟩
  | some ad =>
    have hnews : ∀ (j : Nat) (u : Value), news[j]? = some u → w.cell? (ad.add j) = some u := fun j u hu => by obtain ⟨ad', he, hc⟩ := hcells j u hu; cases he; exact hc
    obtain ⟨v', w', hr, h2, h3, h4⟩ := run_append_own (P := P) w 0 t ty e i z size bytes ht hi hz hsize hby hzs hsz v n xs hown ad m c news hl hnews h1 h63 hbytes (Nat.zero_le _)
    refine ⟨v', w', hr, h2, Fr.grownBy h3, fun g hg => ?_⟩
    have hml : n + m ≤ 9223372036854775807 := by simp only [maxLen] at h63; omega
    subst hsize hby
    rcases hown with ⟨hxl, hn | ⟨g0, cap, cur, rfl, _, hb, hnc, hcm, hcs, htk⟩⟩
    · obtain ⟨rfl, rfl⟩ := hn
      by_cases hm : m = 0
      · have := h4.2 ⟨rfl, hm⟩
        rw [this] at hg; simp [Value.ownBlock] at hg
      · have hr' := run_append_nil (P := P) w t ty e i z ht hi hz ad m c news hl hnews (by omega) (by omega) (by simp only [Nat.zero_add] at hbytes; omega)
        rw [hr'] at hr
        simp only [Result.ok.injEq] at hr
        rw [← hr.1] at hg
        simp only [Value.ownBlock, Option.some.injEq] at hg
        exact .inr (by omega)
    · by_cases hroom : n + m ≤ cap
      · have hr' := run_append_room (P := P) w t ty e i ht hi g0 n cap cur hb ad m c news hl hnews h1 hroom (by rw [hl, hcs, ← Nat.add_mul]; exact Nat.mul_le_mul_right _ hroom)
        rw [hr'] at hr
        simp only [Result.ok.injEq] at hr
        rw [← hr.1] at hg
        exact .inl hg
      · have holds : ∀ (j : Nat) (u : Value), xs[j]? = some u → w.cell? ((⟨g0, 0, none⟩ : Addr).add j) = some u :=
          World.ownsRow.cells (base := 0) (e := e) (size := i.size) (v := .slice (some ⟨g0, 0, none⟩) n cap) (n := n) ⟨hxl, .inr ⟨g0, cap, cur, rfl, Nat.zero_le _, hb, hnc, hcm, hcs, htk⟩⟩ rfl
        have hr' := run_append_grow (P := P) w t ty e i z ht hi hz ⟨g0, 0, none⟩ n cap xs hxl holds ad m c news hl hnews (by omega) (by omega) (growslice_fits (by omega) hbytes)
        rw [hr'] at hr
        simp only [Result.ok.injEq] at hr
        rw [← hr.1] at hg
        simp only [Value.ownBlock, Option.some.injEq] at hg
        exact .inr (by omega)

/-- x[k:], as it runs -/
theorem run_from {P : Program} (t e : TypeId) (i : TypeInfo) (ht : P.underlying t = some (.slice e)) (hi' : P.info? e = some i) (sz : Nat) (hsz : i.size = sz) (ad : Option Addr) (n c : Nat) (kk : IntKind) (k : Nat) (hkn : k ≤ n) (_ : n ≤ c) :
    ∀ w : World, (Instr.slice t (.slice ad n c) (some (.int kk (k : Int))) none none).run P w = .ok (sliced ad k n c sz) w := by
  intro w
  have he : P.elem t = e := by simp [Program.elem, ht]
  rw [run_slice_l (P := P) (w := w) t ad n c (by rw [he]; exact ht) kk k (by omega) (by omega)]
  simp [sizeOf, typeInfo, he, hi', hsz, Result.andThen]

theorem wp_append_row {P : Program} {w : World} {o : Oper} {a : Act} {K : Act → World → Prop} {Q : Exit → Act → World → Prop} (s x : Operand) (t : TypeId)
    (ho : o.op = .call { callee := .builtin .append, args := #[s, x], argTypes := #[t, t] })
    {v u v' : Value} {w' : World} (hs : a.eval s = v) (hx : a.eval x = u) (hr' : (Builtin.append_ #[t, t] o.type #[v, u]).run P w = .ok v' w') (h : K (a.put o.dst v') w') : o.wp P a w K Q := by
  unfold Oper.wp
  simp only [execOp, ho, resolve, invoke, builtin, hs, hx, List.map_toArray, List.map_cons, List.map_nil, Sem.run_bind, hr', Result.andThen, Sem.run_pure, Oper.upon]
  exact h

theorem wp_append_rows {P : Program} {w : World} {o : Oper} {a : Act} {K : Act → World → Prop} {Q : Exit → Act → World → Prop} (s x : Operand) (t : TypeId)
    (ho : o.op = .call { callee := .builtin .append, args := #[s, x], argTypes := #[t, t] })
    (e : TypeId) (i : TypeInfo) (z : Value) (size bytes : Nat) (ht : P.underlying t = some (.slice e)) (hi : P.info? e = some i) (hz : i.zero = some z)
    (hsize : i.size = size) (hby : i.bytes = bytes) (hzs : z.cells.size = size) (hsz : 0 < size)
    (v : Value) (n : Nat) (xs : List Value) (hs : a.eval s = v) (hown : w.ownsRow 0 e size v n xs)
    (u : Value) (m : Nat) (news : List Value) (hx : a.eval x = u) (hrd : Rd w size u m news) (h1 : ∀ u ∈ news, u.oneCell' = true)
    (h63 : n + m ≤ maxLen) (hbytes : (n + m) * bytes ≤ 140737488355328)
    (h : ∀ v' w', w'.ownsRow 0 e size v' (n + m) (xs ++ news) → Fr (fun b => some b = v.ownBlock) w w' → (∀ g, v'.ownBlock = some g → v.ownBlock = some g ∨ w.heap.size ≤ g) → K (a.put o.dst v') w') : o.wp P a w K Q := by
  obtain ⟨v', w', hr, h2, h3, h4⟩ := run_append_row (P := P) (w := w) t o.type e i z size bytes ht hi hz hsize hby hzs hsz v n xs hown u m news hrd h1 h63 hbytes
  exact wp_append_row s x t ho hs hx hr (h v' w' h2 h3 h4)

theorem ownsRow_cap {w : World} {B T sz n c m : Nat} {a : Option Addr} {xs : List Value} (h : w.ownsRow B T sz (.slice a m c) n xs) : n ≤ c := by
  rcases h.2 with ⟨h1, h2⟩ | ⟨g, cap, cur, hv, _, _, h2, _⟩
  · omega
  · simp only [Value.slice.injEq] at hv; omega
end Go.Proofs.YtnjaaagiindclaaGreatDoor

/-
  Rows of so many cells each, rows of one type of blocks. No program in sight.
-/
namespace Go.Proofs.YtnjaaagiindclaaGreatDoor
open Go.RowKit Go.Deep

theorem add_plain' (b o k : Nat) : (⟨b, o, none⟩ : Addr).add k = ⟨b, o + k, none⟩ := by unfold Addr.add; split <;> simp_all

theorem heap_drew (w : World) : w.drew.heap = w.heap := rfl

theorem heap_at {w : World} {o : Obj} {k : Nat} (h : k = w.heap.size) : (w.alloc o).heap[k]? = some o := by rw [heap_alloc, if_pos h]
theorem heap_old {w : World} {o x : Obj} {k : Nat} (h : w.heap[k]? = some x) : (w.alloc o).heap[k]? = some x := by rw [heap_alloc_ne (lt_blk h)]; exact h

/-- rows of k cells each -/
theorem flat_get {α : Type} {f : α → List Value} {k : Nat} (hk : ∀ x, (f x).length = k) {L : List α} {i : Nat} {x : α} (h : L[i]? = some x) {j : Nat} (hj : j < k) : (L.flatMap f)[i * k + j]? = (f x)[j]? := by
  induction L generalizing i with
  | nil => simp at h
  | cons y L ih =>
    cases i with
    | zero =>
      simp only [List.getElem?_cons_zero, Option.some.injEq] at h
      subst h
      rw [List.flatMap_cons, Nat.zero_mul, Nat.zero_add, List.getElem?_append_left (by rw [hk]; exact hj)]
    | succ i =>
      rw [List.flatMap_cons, List.getElem?_append_right (by rw [hk, Nat.add_mul]; omega), hk]
      have e : (i + 1) * k + j - k = i * k + j := by rw [Nat.add_mul]; omega
      rw [e]
      exact ih (by simpa using h)
theorem flat_len {α : Type} {f : α → List Value} {k : Nat} (hk : ∀ x, (f x).length = k) (L : List α) : (L.flatMap f).length = L.length * k := by
  induction L with
  | nil => simp
  | cons y L ih => rw [List.flatMap_cons, List.length_append, ih, hk, List.length_cons, Nat.add_mul]; omega
theorem flat_take {α : Type} {f : α → List Value} {k : Nat} (hk : ∀ x, (f x).length = k) (L : List α) (n : Nat) (hn : n ≤ L.length) : (L.flatMap f).take (n * k) = (L.take n).flatMap f := by
  have e : L.flatMap f = (L.take n).flatMap f ++ (L.drop n).flatMap f := by rw [← List.flatMap_append, List.take_append_drop]
  rw [e, List.take_append_of_le_length (by rw [flat_len hk, List.length_take, Nat.min_eq_left hn]; exact Nat.le_refl _), List.take_of_length_le (by rw [flat_len hk, List.length_take, Nat.min_eq_left hn]; exact Nat.le_refl _)]
theorem flat_drop {α : Type} {f : α → List Value} {k : Nat} (hk : ∀ x, (f x).length = k) (L : List α) (n : Nat) (hn : n ≤ L.length) : (L.flatMap f).drop (n * k) = (L.drop n).flatMap f := by
  have e : L.flatMap f = (L.take n).flatMap f ++ (L.drop n).flatMap f := by rw [← List.flatMap_append, List.take_append_drop]
  have h : ((L.take n).flatMap f).length = n * k := by rw [flat_len hk, List.length_take, Nat.min_eq_left hn]
  rw [e, ← h, List.drop_left]

/-- the i-th of a row of k cells each -/
theorem rd_rows {α : Type} {f : α → List Value} {k : Nat} (hk : ∀ x, (f x).length = k) (h0 : 0 < k) {w : World} {a : Option Addr} {n c : Nat} {L : List α} (h : Rd w k (.slice a n c) n (L.flatMap f)) {i : Nat} {x : α} (hi : L[i]? = some x) :
    ∃ b o, a = some ⟨b, o, none⟩ ∧ ∀ j u, (f x)[j]? = some u → w.cell? ⟨b, o + i * k + j, none⟩ = some u := by
  obtain ⟨a', c', hv, _, _, _, hx⟩ := h
  simp only [Value.slice.injEq] at hv
  obtain ⟨rfl, _, rfl⟩ := hv
  have hpos : ∃ y, (f x)[0]? = some y := ⟨_, List.getElem?_eq_getElem (by rw [hk]; exact h0)⟩
  obtain ⟨y, hy⟩ := hpos
  obtain ⟨ad, rfl, hc⟩ := hx (i * k + 0) y (by rw [flat_get hk hi h0]; exact hy)
  obtain ⟨b, o, spot⟩ := ad
  have hspot : spot = none := by
    have hL : 0 < L.length := by have := (List.getElem?_eq_some_iff.1 hi).1; omega
    obtain ⟨z, hz⟩ : ∃ z, L[0]? = some z := ⟨_, List.getElem?_eq_getElem hL⟩
    obtain ⟨u0, hu0⟩ : ∃ u0, (f z)[0]? = some u0 := ⟨_, List.getElem?_eq_getElem (by rw [hk]; exact h0)⟩
    obtain ⟨ad', he, hc0⟩ := hx 0 u0 (by have := flat_get hk hz h0; rw [Nat.zero_mul, Nat.zero_add] at this; rw [this]; exact hu0)
    simp only [Option.some.injEq] at he
    subst he
    have := World.cell?_spot hc0
    simpa [Addr.add] using this
  subst hspot
  refine ⟨b, o, rfl, fun j u hu => ?_⟩
  have hj : j < k := by have := (List.getElem?_eq_some_iff.1 hu).1; rw [hk] at this; exact this
  obtain ⟨ad', he, hc1⟩ := hx (i * k + j) u (by rw [flat_get hk hi hj]; exact hu)
  simp only [Option.some.injEq] at he
  subst he
  have hadd : (⟨b, o, none⟩ : Addr).add (i * k + j) = ⟨b, o + i * k + j, none⟩ := by unfold Addr.add; split <;> simp_all <;> omega
  rw [hadd] at hc1; exact hc1

theorem owns_keep {S : Nat → Prop} {w w' : World} {T sz n : Nat} {v : Value} {xs : List Value} (h : w.ownsRow 0 T sz v n xs) (hf : Fr S w w') (hS : ∀ g, v.ownBlock = some g → ¬ S g) : w'.ownsRow 0 T sz v n xs := by
  refine ⟨h.1, ?_⟩
  rcases h.2 with h2 | ⟨g, cap, cur, hv, hg, hh, r⟩
  · exact .inl h2
  · exact .inr ⟨g, cap, cur, hv, hg, hf.at hh (hS g (by rw [hv]; rfl)), r⟩

theorem owns_lt {w : World} {T sz n : Nat} {v : Value} {xs : List Value} (h : w.ownsRow 0 T sz v n xs) {g : Nat} (hg : v.ownBlock = some g) : g < w.heap.size := by
  rcases h.2 with ⟨rfl, _⟩ | ⟨g', cap, cur, rfl, _, hh, _⟩
  · simp [Value.ownBlock] at hg
  · simp only [Value.ownBlock, Option.some.injEq] at hg
    subst hg; exact lt_blk hh


/-- a slice that reads as xs; its block is a row of type E -/
def RowT (E sz : Nat) (w : World) (v : Value) (n : Nat) (xs : List Value) : Prop :=
  Rd w sz v n xs ∧ ∀ ad n' c', v = .slice (some ad) n' c' → ∃ c, w.heap[ad.block]? = some (.cells c E (0, 0))

/-- no block of S is a row of type E -/
def NotE (E : Nat) (w : World) (S : Nat → Prop) : Prop := ∀ b, S b → ∀ c, w.heap[b]? ≠ some (.cells c E (0, 0))

theorem NotE.none (E : Nat) (w : World) : NotE E w (fun _ => False) := fun _ h => h.elim
theorem NotE.one {E : Nat} {w : World} {b : Nat} {c : Array Value} {t : TypeId} {f : Nat × Nat} (h : w.heap[b]? = some (.cells c t f)) (ht : t ≠ E) : NotE E w (fun x => x = b) := by
  rintro x rfl c' h'
  rw [h] at h'
  simp only [Option.some.injEq, Obj.cells.injEq] at h'
  exact ht h'.2.1
theorem NotE.map {E : Nat} {w : World} {b : Nat} {es : Array MapEntry} {k : Nat} (h : w.heap[b]? = some (.map es k)) : NotE E w (fun x => x = b) := by
  rintro x rfl c' h'
  rw [h] at h'; cases h'

theorem RowT.fr {S : Nat → Prop} {E sz n : Nat} {w w' : World} {v : Value} {xs : List Value} (h : RowT E sz w v n xs) (hf : Fr S w w') (hS : NotE E w S) : RowT E sz w' v n xs := by
  refine ⟨h.1.fr hf (fun a ⟨c, hv⟩ hs => ?_), fun ad n' c' hv => ?_⟩
  · obtain ⟨c', hc⟩ := h.2 a n c hv
    exact hS _ hs _ hc
  · obtain ⟨c, hc⟩ := h.2 ad n' c' hv
    exact ⟨c, hf.at hc (fun hs => hS _ hs _ hc)⟩
theorem RowT.quiet {E sz n : Nat} {w w' : World} {v : Value} {xs : List Value} (h : RowT E sz w v n xs) (hf : Fr (fun _ => False) w w') : RowT E sz w' v n xs := h.fr hf (NotE.none _ _)

theorem ownsRow_T {w : World} {B E sz n : Nat} {v : Value} {xs : List Value} (h : w.ownsRow B E sz v n xs) : RowT E sz w v n xs := by
  refine ⟨ownsRow_rd h, fun ad n' c' hv => ?_⟩
  rcases h.2 with ⟨rfl, _⟩ | ⟨g, cap, cur, rfl, _, hh, _⟩
  · cases hv
  · simp only [Value.slice.injEq, Option.some.injEq] at hv
    rw [← hv.1]; exact ⟨_, hh⟩

theorem RowT.nil (E sz : Nat) (w : World) : RowT E sz w (.slice none 0 0) 0 [] :=
  ⟨⟨none, 0, rfl, Nat.le_refl _, by simp, fun _ => rfl, by simp⟩, fun _ _ _ h => by cases h⟩

theorem RowT.form {E sz n : Nat} {w : World} {v : Value} {xs : List Value} (h : RowT E sz w v n xs) : ∃ a c, v = .slice a n c ∧ n ≤ c := by
  obtain ⟨a, c, hv, hn, _⟩ := h.1
  exact ⟨a, c, hv, hn⟩

theorem Fr.no {S : Nat → Prop} {w w' : World} (h : Fr (fun _ => False) w w') : Fr S w w' := h.mono (fun _ _ x => x.elim)
theorem Fr.same_ {S : Nat → Prop} {u v w : World} (h : Fr S u v) (k : Fr S v w) : Fr S u w := h.trans k (fun _ _ x => x)
end Go.Proofs.YtnjaaagiindclaaGreatDoor

/-
  Memory as a list of blocks that are apart, in groups: what a call needs, and all the rest as it was. No program in sight.
-/
namespace Go.Proofs.YtnjaaagiindclaaGreatDoor
open Go.RowKit Go.Deep

abbrev Blk := Nat × Obj
abbrev Grp := List Blk

/-- these blocks, each apart from the others, hold this -/
structure Hp (I w : World) (Gs : List Grp) : Prop where
  io : w.os = I.os ∧ w.tape = I.tape ∧ w.output = I.output
  nd : (Gs.flatten.map Prod.fst).Nodup
  has : ∀ x ∈ Gs.flatten, w.heap[x.1]? = some x.2

variable {I w w' : World} {A B C D E F G H : Grp} {R Gs Hs : List Grp} {b b' : Nat} {o o' : Obj}

theorem Hp.perm (h : Hp I w Gs) (p : Gs.flatten.Perm Hs.flatten) : Hp I w Hs :=
  ⟨h.io, (p.map Prod.fst).nodup_iff.1 h.nd, fun x hx => h.has x (p.mem_iff.2 hx)⟩
theorem Hp.permG (h : Hp I w Gs) (p : Gs.Perm Hs) : Hp I w Hs := h.perm p.flatten

theorem Hp.p2 (h : Hp I w (A :: B :: R)) : Hp I w (B :: A :: R) := h.permG (.swap ..)
theorem Hp.p3 (h : Hp I w (A :: B :: C :: R)) : Hp I w (C :: A :: B :: R) := h.permG (List.perm_middle (l₁ := [A, B]))
theorem Hp.p4 (h : Hp I w (A :: B :: C :: D :: R)) : Hp I w (D :: A :: B :: C :: R) := h.permG (List.perm_middle (l₁ := [A, B, C]))
theorem Hp.p5 (h : Hp I w (A :: B :: C :: D :: E :: R)) : Hp I w (E :: A :: B :: C :: D :: R) := h.permG (List.perm_middle (l₁ := [A, B, C, D]))
theorem Hp.p6 (h : Hp I w (A :: B :: C :: D :: E :: F :: R)) : Hp I w (F :: A :: B :: C :: D :: E :: R) := h.permG (List.perm_middle (l₁ := [A, B, C, D, E]))
theorem Hp.p7 (h : Hp I w (A :: B :: C :: D :: E :: F :: G :: R)) : Hp I w (G :: A :: B :: C :: D :: E :: F :: R) := h.permG (List.perm_middle (l₁ := [A, B, C, D, E, F]))
theorem Hp.p8 (h : Hp I w (A :: B :: C :: D :: E :: F :: G :: H :: R)) : Hp I w (H :: A :: B :: C :: D :: E :: F :: G :: R) := h.permG (List.perm_middle (l₁ := [A, B, C, D, E, F, G]))
theorem Hp.u3 (h : Hp I w (A :: B :: C :: R)) : Hp I w (B :: C :: A :: R) := h.permG (List.perm_middle (l₁ := [B, C])).symm
theorem Hp.u4 (h : Hp I w (A :: B :: C :: D :: R)) : Hp I w (B :: C :: D :: A :: R) := h.permG (List.perm_middle (l₁ := [B, C, D])).symm
theorem Hp.u5 (h : Hp I w (A :: B :: C :: D :: E :: R)) : Hp I w (B :: C :: D :: E :: A :: R) := h.permG (List.perm_middle (l₁ := [B, C, D, E])).symm
theorem Hp.u6 (h : Hp I w (A :: B :: C :: D :: E :: F :: R)) : Hp I w (B :: C :: D :: E :: F :: A :: R) := h.permG (List.perm_middle (l₁ := [B, C, D, E, F])).symm
theorem Hp.u7 (h : Hp I w (A :: B :: C :: D :: E :: F :: G :: R)) : Hp I w (B :: C :: D :: E :: F :: G :: A :: R) := h.permG (List.perm_middle (l₁ := [B, C, D, E, F, G])).symm
theorem Hp.u8 (h : Hp I w (A :: B :: C :: D :: E :: F :: G :: H :: R)) : Hp I w (B :: C :: D :: E :: F :: G :: H :: A :: R) := h.permG (List.perm_middle (l₁ := [B, C, D, E, F, G, H])).symm

theorem Hp.join (h : Hp I w (A :: B :: R)) : Hp I w ((A ++ B) :: R) := h.perm (by simp [List.append_assoc])
theorem Hp.split (h : Hp I w ((A ++ B) :: R)) : Hp I w (A :: B :: R) := h.perm (by simp [List.append_assoc])
theorem Hp.cut {x : Blk} (h : Hp I w ((x :: B) :: R)) : Hp I w ([x] :: B :: R) := h.perm (by simp)
theorem Hp.glue {x : Blk} (h : Hp I w ([x] :: B :: R)) : Hp I w ((x :: B) :: R) := h.perm (by simp)
theorem Hp.nil (h : Hp I w R) : Hp I w ([] :: R) := h.perm (by simp)
theorem Hp.unnil (h : Hp I w ([] :: R)) : Hp I w R := h.perm (by simp)
/-- what is let go -/
theorem Hp.drop (h : Hp I w (A :: R)) : Hp I w R := by
  refine ⟨h.io, ?_, fun x hx => h.has x (by simp only [List.flatten_cons, List.mem_append]; exact .inr hx)⟩
  have := h.nd
  rw [List.flatten_cons, List.map_append] at this
  exact (List.nodup_append.1 this).2.1
theorem Hp.zero (w : World) : Hp w w [] := ⟨⟨rfl, rfl, rfl⟩, by simp, by simp⟩

theorem Hp.blk (h : Hp I w ([(b, o)] :: R)) : w.heap[b]? = some o := h.has (b, o) (by simp)
theorem Hp.mem (h : Hp I w Gs) {b : Nat} {o : Obj} (hG : A ∈ Gs) (hx : (b, o) ∈ A) : w.heap[b]? = some o := h.has (b, o) (List.mem_flatten.2 ⟨A, hG, hx⟩)
theorem Hp.lt (h : Hp I w Gs) {x : Blk} (hx : x ∈ Gs.flatten) : x.1 < w.heap.size := lt_blk (h.has x hx)
theorem Hp.apart (h : Hp I w ([(b, o)] :: R)) : ∀ x ∈ R.flatten, x.1 ≠ b := by
  intro x hx he
  have := h.nd
  rw [List.flatten_cons, List.map_append] at this
  exact (List.nodup_append.1 this).2.2 b (by simp) x.1 (List.mem_map_of_mem hx) he.symm
theorem Hp.ne (h : Hp I w ([(b, o)] :: [(b', o')] :: R)) : b ≠ b' := fun e => h.apart (b', o') (by simp) e.symm
/-- any two blocks of two groups -/
theorem Hp.ne' (h : Hp I w (A :: B :: R)) {x y : Blk} (hx : x ∈ A) (hy : y ∈ B) : x.1 ≠ y.1 := by
  have := h.nd
  rw [List.flatten_cons, List.map_append, List.nodup_append] at this
  exact this.2.2 x.1 (List.mem_map_of_mem hx) y.1 (List.mem_map_of_mem (by simp [hy]))

theorem Hp.fr {S : Nat → Prop} (h : Hp I w Gs) (hf : Fr S w w') (hS : ∀ x ∈ Gs.flatten, ¬ S x.1) : Hp I w' Gs :=
  ⟨⟨hf.os.trans h.io.1, hf.tape.trans h.io.2.1, hf.output.trans h.io.2.2⟩, h.nd, fun x hx => hf.at (h.has x hx) (hS x hx)⟩
theorem Hp.quiet (h : Hp I w Gs) (hf : Fr (fun _ => False) w w') : Hp I w' Gs := h.fr hf (fun _ _ x => x)
theorem Hp.drewN (h : Hp I w Gs) (n : Nat) : Hp I (w.drewN n) Gs := ⟨h.io, h.nd, h.has⟩
theorem Hp.drew (h : Hp I w Gs) : Hp I w.drew Gs := ⟨h.io, h.nd, h.has⟩
/-- one block turns -/
theorem Hp.put (h : Hp I w ([(b, o)] :: R)) (hf : Fr (fun x => x = b) w w') (hb : w'.heap[b]? = some o') : Hp I w' ([(b, o')] :: R) := by
  refine ⟨⟨hf.os.trans h.io.1, hf.tape.trans h.io.2.1, hf.output.trans h.io.2.2⟩, h.nd, fun x hx => ?_⟩
  rw [List.flatten_cons, List.mem_append] at hx
  rcases hx with hx | hx
  · simp only [List.mem_singleton] at hx; subst hx; exact hb
  · exact hf.at (h.has x (by simp only [List.flatten_cons, List.mem_append]; exact .inr hx)) (h.apart x hx)
/-- a block that is new -/
theorem Hp.add {g : Nat} (h : Hp I w R) (hf : Fr (fun _ => False) w w') (hg : w'.heap[g]? = some o) (hn : w.heap.size ≤ g) : Hp I w' ([(g, o)] :: R) := by
  refine ⟨⟨hf.os.trans h.io.1, hf.tape.trans h.io.2.1, hf.output.trans h.io.2.2⟩, ?_, fun x hx => ?_⟩
  · rw [List.flatten_cons, List.map_append]
    show (g :: R.flatten.map Prod.fst).Nodup
    rw [List.nodup_cons]
    refine ⟨fun hm => ?_, h.nd⟩
    obtain ⟨x, hx, he⟩ := List.mem_map.1 hm
    have := h.lt hx
    omega
  · rw [List.flatten_cons, List.mem_append] at hx
    rcases hx with hx | hx
    · simp only [List.mem_singleton] at hx; subst hx; exact hg
    · exact hf.at (h.has x hx) (fun x => x)
theorem Hp.new (h : Hp I w R) (o : Obj) : Hp I (w.alloc o) ([(w.heap.size, o)] :: R) := h.add ((Fr.refl _ w).alloc o) (by rw [heap_alloc, if_pos rfl]) (Nat.le_refl _)
theorem Hp.old (h : Hp I w R) (o : Obj) : Hp I (w.alloc o) R := h.quiet ((Fr.refl _ w).alloc o)
theorem Hp.set {c : Array Value} {t : TypeId} {f : Nat × Nat} (h : Hp I w ([(b, .cells c t f)] :: R)) (i : Nat) (v : Value) : Hp I (w.setCell ⟨b, i, none⟩ v) ([(b, .cells (c.setIfInBounds i v) t f)] :: R) :=
  h.put ((Fr.refl _ w).setCell _ _ (.inl rfl)) (heap_setCell_at h.blk)
/-- a group turns into another one, of its own blocks and new ones -/
theorem Hp.turn (h : Hp I w (A :: R)) (hf : Fr (fun x => x ∈ A.map Prod.fst) w w') (nd : (B.map Prod.fst).Nodup) (hB : ∀ x ∈ B, w'.heap[x.1]? = some x.2 ∧ (x.1 ∈ A.map Prod.fst ∨ w.heap.size ≤ x.1)) : Hp I w' (B :: R) := by
  have h0 := h.nd
  rw [List.flatten_cons, List.map_append, List.nodup_append] at h0
  have hR := h.drop
  refine ⟨⟨hf.os.trans h.io.1, hf.tape.trans h.io.2.1, hf.output.trans h.io.2.2⟩, ?_, fun x hx => ?_⟩
  · rw [List.flatten_cons, List.map_append, List.nodup_append]
    refine ⟨nd, h0.2.1, fun a ha c hc e => ?_⟩
    subst e
    obtain ⟨x, hx, rfl⟩ := List.mem_map.1 ha
    rcases (hB x hx).2 with h1 | h1
    · exact h0.2.2 _ h1 _ hc rfl
    · obtain ⟨y, hy, he⟩ := List.mem_map.1 hc
      have := hR.lt hy
      omega
  · rw [List.flatten_cons, List.mem_append] at hx
    rcases hx with hx | hx
    · exact (hB x hx).1
    · exact hf.at (hR.has x hx) (fun hm => h0.2.2 _ hm _ (List.mem_map_of_mem hx) rfl)
/-- a frame out of it -/
theorem Hp.cell {c : Array Value} {t : TypeId} {f : Nat × Nat} (h : Hp I w ([(b, .cells c t f)] :: R)) (i : Nat) : w.cell? ⟨b, i, none⟩ = c[i]? := cell_blk h.blk i

/-- a row of things of a type, from an own block's first cell on; its block is the group -/
def RowG (E sz : Nat) (v : Value) (n : Nat) (xs : List Value) (G : Grp) : Prop :=
  xs.length = n * sz ∧ ((v = .slice none 0 0 ∧ n = 0 ∧ G = []) ∨ ∃ g cap cur, v = .slice (some ⟨g, 0, none⟩) n cap ∧ G = [(g, .cells cur E (0, 0))] ∧ n ≤ cap ∧ cap ≤ maxLen ∧ cur.size = cap * sz ∧ cur.toList.take (n * sz) = xs)

section
variable {T sz n n' : Nat} {v v' : Value} {xs xs' : List Value}
theorem RowG.form (h : RowG T sz v n xs G) : ∃ a c, v = .slice a n c ∧ n ≤ c := by
  rcases h.2 with ⟨rfl, rfl, _⟩ | ⟨g, cap, cur, rfl, _, hc, _⟩
  · exact ⟨_, _, rfl, Nat.le_refl _⟩
  · exact ⟨_, _, rfl, hc⟩
theorem RowG.nil (T sz : Nat) : RowG T sz (.slice none 0 0) 0 [] [] := ⟨by simp, .inl ⟨rfl, rfl, rfl⟩⟩
theorem RowG.one (h : RowG T sz v n xs G) : v.oneCell' = true := by obtain ⟨a, c, rfl, _⟩ := h.form; rfl
theorem Hp.row (h : Hp I w (G :: R)) (r : RowG T sz v n xs G) : w.ownsRow 0 T sz v n xs := by
  refine ⟨r.1, ?_⟩
  rcases r.2 with ⟨rfl, rfl, _⟩ | ⟨g, cap, cur, rfl, rfl, h1, h2, h3, h4⟩
  · exact .inl ⟨rfl, rfl⟩
  · exact .inr ⟨g, cap, cur, rfl, Nat.zero_le _, h.blk, h1, h2, h3, h4⟩
theorem Hp.rd (h : Hp I w (G :: R)) (r : RowG T sz v n xs G) : Rd w sz v n xs := ownsRow_rd (h.row r)
theorem Hp.rowT (h : Hp I w (G :: R)) (r : RowG T sz v n xs G) : RowT T sz w v n xs := ownsRow_T (h.row r)
theorem RowG.of {B : Nat} (h : w.ownsRow B T sz v n xs) : ∃ G, RowG T sz v n xs G ∧ (∀ x ∈ G, w.heap[x.1]? = some x.2 ∧ v.ownBlock = some x.1 ∧ B ≤ x.1) ∧ (G.map Prod.fst).Nodup := by
  rcases h with ⟨hl, ⟨rfl, rfl⟩ | ⟨g, cap, cur, rfl, hg, hh, h1, h2, h3, h4⟩⟩
  · exact ⟨[], ⟨hl, .inl ⟨rfl, rfl, rfl⟩⟩, by simp, by simp⟩
  · refine ⟨[(g, .cells cur T (0, 0))], ⟨hl, .inr ⟨g, cap, cur, rfl, rfl, h1, h2, h3, h4⟩⟩, fun x hx => ?_, by simp⟩
    simp only [List.mem_singleton] at hx
    subst hx
    exact ⟨hh, rfl, hg⟩
theorem RowG.own (r : RowG T sz v n xs G) : ∀ g, v.ownBlock = some g ↔ g ∈ G.map Prod.fst := by
  intro g
  rcases r.2 with ⟨rfl, rfl, rfl⟩ | ⟨g', cap, cur, rfl, rfl, _⟩
  · simp [Value.ownBlock]
  · simp [Value.ownBlock, eq_comm]
/-- a row that was appended to, or made of it -/
theorem Hp.grow (h : Hp I w (G :: R)) (r : RowG T sz v n xs G) (ho : w'.ownsRow 0 T sz v' n' xs') (hf : Fr (fun b => some b = v.ownBlock) w w') (hg : ∀ g, v'.ownBlock = some g → v.ownBlock = some g ∨ w.heap.size ≤ g) :
    ∃ G', RowG T sz v' n' xs' G' ∧ Hp I w' (G' :: R) := by
  obtain ⟨G', r', h1, h2⟩ := RowG.of ho
  refine ⟨G', r', h.turn (hf.mono (fun b _ hb => (r.own b).1 hb.symm)) h2 (fun x hx => ⟨(h1 x hx).1, ?_⟩)⟩
  rcases hg _ (h1 x hx).2.1 with h3 | h3
  · exact .inl ((r.own _).1 h3)
  · exact .inr h3
/-- a row that is new -/
theorem Hp.newRow (h : Hp I w R) (ho : w'.ownsRow w.heap.size T sz v n xs) (hf : Fr (fun _ => False) w w') : ∃ G, RowG T sz v n xs G ∧ Hp I w' (G :: R) := by
  obtain ⟨G, r, h1, h2⟩ := RowG.of ho
  exact ⟨G, r, h.nil.turn (hf.mono (fun _ _ x => x.elim)) h2 (fun x hx => ⟨(h1 x hx).1, .inr (h1 x hx).2.2⟩)⟩
theorem RowG.made {g : Nat} {c : Array Value} (n : Nat) (hc : c.size = n * sz) (hn : n ≤ maxLen) : RowG T sz (.slice (some ⟨g, 0, none⟩) n n) n c.toList [(g, .cells c T (0, 0))] :=
  ⟨by simpa using hc, .inr ⟨g, n, c, rfl, rfl, Nat.le_refl _, hn, hc, by rw [← hc, ← Array.length_toList, List.take_length]⟩⟩
theorem RowG.empty {g : Nat} : RowG T sz (.slice (some ⟨g, 0, none⟩) 0 0) 0 [] [(g, .cells #[] T (0, 0))] :=
  ⟨by simp, .inr ⟨g, 0, #[], rfl, rfl, Nat.le_refl _, by simp [maxLen], by simp, by simp⟩⟩
end

section
variable {P : Program} {op : Oper} {a : Act} {K : Act → World → Prop} {Q : Exit → Act → World → Prop} {ops : Array Oper} {rest : List Oper} {u z v : Value} {S T sz n m bytes : Nat} {xs news : List Value}
theorem wp_app (s x : Operand) (ho : op.op = .call { callee := .builtin .append, args := #[s, x], argTypes := #[S, S] }) (hU : P.underlying S = some (.slice T)) (hI : (P.info? T).map (fun i => (i.zero, i.size, i.bytes)) = some (some z, sz, bytes))
    (hzs : z.cells.size = sz) (h0 : 0 < sz) (hB : bytes ≤ 1024) (hs : a.eval s = v) (hx : a.eval x = u) (h : Hp I w (G :: R)) (r : RowG T sz v n xs G) (hrd : Rd w sz u m news) (h1 : ∀ u ∈ news, u.oneCell' = true) (hn : n + m ≤ 68719476736)
    (hK : ∀ v' w' G', RowG T sz v' (n + m) (xs ++ news) G' → Hp I w' (G' :: R) → Fr (fun b => some b = v.ownBlock) w w' → K (a.put op.dst v') w') : op.wp P a w K Q := by
  obtain ⟨i0, hi, hz0, hz1, hz2⟩ := info_parts hI
  refine wp_append_rows s x S ho T i0 z sz bytes hU hi hz0 hz1 hz2 hzs h0 v n _ hs (h.row r) u m _ hx hrd h1 (by simp only [maxLen]; omega) (Nat.le_trans (Nat.mul_le_mul hn hB) (by decide)) (fun l' w' h2 h3 h4 => ?_)
  obtain ⟨G', r', h'⟩ := h.grow r h2 h3 h4
  exact hK l' w' G' r' h' h3
theorem wpList_app (hgd : op.guard = none) (s x : Operand) (ho : op.op = .call { callee := .builtin .append, args := #[s, x], argTypes := #[S, S] }) (hU : P.underlying S = some (.slice T)) (hI : (P.info? T).map (fun i => (i.zero, i.size, i.bytes)) = some (some z, sz, bytes))
    (hzs : z.cells.size = sz) (h0 : 0 < sz) (hB : bytes ≤ 1024) (hs : a.eval s = v) (hx : a.eval x = u) (h : Hp I w (G :: R)) (r : RowG T sz v n xs G) (hrd : Rd w sz u m news) (h1 : ∀ u ∈ news, u.oneCell' = true) (hn : n + m ≤ 68719476736)
    (hK : ∀ v' w' G', RowG T sz v' (n + m) (xs ++ news) G' → Hp I w' (G' :: R) → Fr (fun b => some b = v.ownBlock) w w' → wpList P ops Q rest (a.put op.dst v') w') : wpList P ops Q (op :: rest) a w :=
  wpList_plain hgd fun _ hk' => wp_app s x ho hU hI hzs h0 hB hs hx h r hrd h1 hn (fun l' w' G' h2 h3 h4 => hk' _ _ (hK l' w' G' h2 h3 h4))
end

/-! Groups by their place in a list. -/
theorem perm_erase {α : Type} {l : List α} {i : Nat} {a : α} (h : l[i]? = some a) : (a :: l.eraseIdx i).Perm l := by
  induction l generalizing i with
  | nil => simp at h
  | cons x l ih =>
    cases i with
    | zero => simp only [List.getElem?_cons_zero, Option.some.injEq] at h; subst h; exact .refl _
    | succ i => exact (List.Perm.swap x a _).trans (.cons x (ih (by simpa using h)))
theorem perm_insert {α : Type} (l : List α) (i : Nat) (a : α) (h : i ≤ l.length) : (l.insertIdx i a).Perm (a :: l) := by
  induction l generalizing i with
  | nil => have : i = 0 := by simpa using h
           subst this; exact .refl _
  | cons x l ih =>
    cases i with
    | zero => exact .refl _
    | succ i => exact (List.Perm.cons x (ih i (by simpa using h))).trans (.swap ..)
theorem Hp.take (h : Hp I w Gs) (i : Nat) (hi : Gs[i]? = some A) : Hp I w (A :: Gs.eraseIdx i) := h.permG (perm_erase hi).symm
theorem Hp.back (h : Hp I w (B :: R)) (i : Nat) (hi : i ≤ R.length) : Hp I w (R.insertIdx i B) := h.permG (perm_insert R i B hi).symm
theorem Hp.size (h : Hp I w ([(b, o)] :: R)) : b < w.heap.size := lt_blk h.blk
end Go.Proofs.YtnjaaagiindclaaGreatDoor

/-
  Maps in memory, over any program: what a map holds, as a list of keys and values, and what the operations do to it.
-/
namespace Go.Proofs.YtnjaaagiindclaaGreatDoor
open Go.RowKit

/-- keys of type kt, as enc says them, are told apart as they are -/
structure KeyLaw (P : Program) (kt : TypeId) {κ : Type} [DecidableEq κ] (enc : κ → Value) : Prop where
  now : ∃ U, P.underlying kt = some U ∧ ∀ a b, Instr.sameNow U (enc a) (enc b) = none ∨ Instr.sameNow U (enc a) (enc b) = some (decide (a = b))
  check : ∀ (empty : Bool) (k : κ) (w : World), (Instr.checkKey empty 10000 kt (enc k)).run P w = .ok () w
  eq : ∀ (a b : κ) (w : World), (Op.equal kt (enc a) (enc b)).run P w = .ok (decide (a = b)) w
  same : ∀ k, Instr.sameBits 10000 (enc k) (enc k) = true

/-- the map in block b holds m -/
def MapIs {κ : Type} (enc : κ → Value) (w : World) (b : Nat) (m : List (κ × Value)) : Prop :=
  ∃ es clock, w.heap[b]? = some (.map es clock) ∧ es.toList.map (fun e => (e.key, e.val)) = m.map (fun p => (enc p.1, p.2)) ∧ (m.map (·.1)).Nodup ∧ (es.toList.map (·.born)).Nodup ∧ ∀ e ∈ es.toList, e.born < clock

section
variable {κ : Type} {enc : κ → Value}

theorem MapIs.new (enc : κ → Value) {w : World} {b : Nat} (h : w.heap[b]? = some (.map #[] 0)) : MapIs enc w b [] := ⟨#[], 0, h, rfl, by simp, by simp, by simp⟩

theorem MapIs.fr {S : Nat → Prop} {w w' : World} {b : Nat} {m : List (κ × Value)} (h : MapIs enc w b m) (hf : Fr S w w') (hS : ¬ S b) : MapIs enc w' b m := by
  obtain ⟨es, clock, h1, h2⟩ := h
  exact ⟨es, clock, hf.at h1 hS, h2⟩

theorem MapIs.lt {w : World} {b : Nat} {m : List (κ × Value)} (h : MapIs enc w b m) : b < w.heap.size := by
  obtain ⟨es, clock, h1, _⟩ := h
  exact lt_blk h1

theorem MapIs.nodup {w : World} {b : Nat} {m : List (κ × Value)} (h : MapIs enc w b m) : (m.map (·.1)).Nodup := by
  obtain ⟨_, _, _, _, h, _⟩ := h
  exact h

theorem keys_of {es : List MapEntry} {m : List (κ × Value)} (h : es.map (fun e => (e.key, e.val)) = m.map (fun p => (enc p.1, p.2))) : es.map (·.key) = (m.map (·.1)).map enc := by
  have := congrArg (List.map (·.1)) h
  simpa [Function.comp_def] using this

theorem vals_of {es : List MapEntry} {m : List (κ × Value)} (h : es.map (fun e => (e.key, e.val)) = m.map (fun p => (enc p.1, p.2))) (j : Nat) : (es[j]?).map (·.val) = (m[j]?).map (·.2) := by
  have := congrArg (fun l => (l[j]?).map (·.2)) h
  simpa [Function.comp_def] using this
theorem getObj_map {P : Program} {w : World} {b : Nat} {es : Array MapEntry} {c : Nat} (h : w.heap[b]? = some (.map es c)) : (getObj b).run P w = .ok (.map es c) w := by simp [getObj, Sem.run, h]

theorem map_erase {α β : Type} (f : α → β) (l : List α) (j : Nat) : (l.eraseIdx j).map f = (l.map f).eraseIdx j := by
  induction l generalizing j with
  | nil => simp
  | cons a l ih => cases j <;> simp [ih]

theorem run_map_len {P : Program} {kt et t : TypeId} (ht : P.underlying t = some (.map kt et)) {w : World} {b : Nat} {m : List (κ × Value)} (h : MapIs enc w b m) (ty : TypeId) :
    (Builtin.len_ #[t] ty #[.map (some b)]).run P w = .ok (.int .i64 m.length) w := by
  obtain ⟨es, clock, hb, hes, hn, _, _⟩ := h
  have hlen : es.size = m.length := by have := congrArg List.length hes; simpa using this
  unfold Builtin.len_
  simp [run_underlying ht, getObj_map hb, Result.andThen, goInt, hlen]

end

section
variable {P : Program} {kt et t : TypeId} {κ : Type} [DecidableEq κ] {enc : κ → Value}

/-- where a key stands -/
def posOf (k : κ) : List κ → Option Nat
  | [] => none
  | a :: l => if k = a then some 0 else (posOf k l).map (· + 1)

theorem posOf_none {k : κ} {l : List κ} : posOf k l = none ↔ k ∉ l := by
  induction l with
  | nil => simp [posOf]
  | cons a l ih =>
    by_cases h : k = a
    · simp [posOf, h]
    · simp [posOf, h, ih]
theorem posOf_some {k : κ} {l : List κ} {i : Nat} (h : posOf k l = some i) : l[i]? = some k := by
  induction l generalizing i with
  | nil => simp [posOf] at h
  | cons a l ih =>
    by_cases hk : k = a
    · simp [posOf, hk] at h; subst h; simp [hk]
    · simp [posOf, hk] at h
      obtain ⟨j, hj, rfl⟩ := h
      simpa using ih hj

theorem findNow_law {U : TypeDesc} (hU : ∀ a b, Instr.sameNow U (enc a) (enc b) = none ∨ Instr.sameNow U (enc a) (enc b) = some (decide (a = b))) (k : κ) :
    ∀ (es : List MapEntry) (ks : List κ) (i : Nat), es.map (·.key) = ks.map enc →
      Instr.findNow U (enc k) es i = none ∨ Instr.findNow U (enc k) es i = some ((posOf k ks).bind fun j => (es[j]?).map fun e => (i + j, e.val)) := by
  intro es
  induction es with
  | nil => intro ks i h; cases ks <;> simp_all [Instr.findNow, posOf]
  | cons e es ih =>
    intro ks i h
    cases ks with
    | nil => simp at h
    | cons a ks =>
      simp only [List.map_cons, List.cons.injEq] at h
      simp only [Instr.findNow, h.1]
      rcases hU k a with hn | hn
      · simp [hn]
      · by_cases hk : k = a
        · subst hk; simp [hn, posOf]
        · simp only [hn, hk, decide_false]
          rcases ih ks (i + 1) h.2 with h1 | h1
          · exact .inl h1
          · right
            rw [h1]
            simp only [posOf, hk, if_false]
            cases posOf k ks with
            | none => rfl
            | some j => simp [Nat.add_assoc, Nat.add_comm 1 j]

theorem findAsking_law (hE : ∀ (a b : κ) (w : World), (Op.equal kt (enc a) (enc b)).run P w = .ok (decide (a = b)) w) (k : κ) (w : World) :
    ∀ (es : List MapEntry) (ks : List κ) (i : Nat), es.map (·.key) = ks.map enc →
      (Instr.findAsking kt (enc k) es i).run P w = .ok ((posOf k ks).bind fun j => (es[j]?).map fun e => (i + j, e.val)) w := by
  intro es
  induction es with
  | nil => intro ks i h; cases ks <;> simp_all [Instr.findAsking, posOf]
  | cons e es ih =>
    intro ks i h
    cases ks with
    | nil => simp at h
    | cons a ks =>
      simp only [List.map_cons, List.cons.injEq] at h
      simp only [Instr.findAsking, Sem.run_bind, h.1, hE, Result.andThen]
      by_cases hk : k = a
      · simp [hk, posOf]
      · simp only [hk, decide_false, posOf, if_false]
        rw [show ((if false = true then pure (some (i, e.val)) else Instr.findAsking kt (enc k) es (i + 1)) : Sem (Option (Nat × Value))) = Instr.findAsking kt (enc k) es (i + 1) from rfl, ih ks (i + 1) h.2]
        cases posOf k ks with
        | none => rfl
        | some j => simp [Nat.add_assoc, Nat.add_comm 1 j]

theorem findKey_law (L : KeyLaw P kt enc) (k : κ) (w : World) (es : List MapEntry) (ks : List κ) (h : es.map (·.key) = ks.map enc) :
    (Instr.findKey kt (enc k) es).run P w = .ok ((posOf k ks).bind fun j => (es[j]?).map fun e => (j, e.val)) w := by
  obtain ⟨U, hu, hU⟩ := L.now
  unfold Instr.findKey
  simp only [Sem.run_bind, run_underlying hu, Result.andThen]
  rcases findNow_law hU k es ks 0 h with h1 | h1
  · rw [h1]
    simpa using findAsking_law L.eq k w es ks 0 h
  · rw [h1]
    simp

def mapGet (m : List (κ × Value)) (k : κ) : Option Value := (posOf k (m.map (·.1))).bind fun j => (m[j]?).map (·.2)
def mapSet (m : List (κ × Value)) (k : κ) (v : Value) : List (κ × Value) := match posOf k (m.map (·.1)) with | some j => m.set j (k, v) | none => m ++ [(k, v)]
def mapDel (m : List (κ × Value)) (k : κ) : List (κ × Value) := match posOf k (m.map (·.1)) with | some j => m.eraseIdx j | none => m

/-- the world with another object in a block -/
def put (w : World) (b : Nat) (o : Obj) : World := { w with heap := w.heap.setIfInBounds b o }
theorem setObj_map {w : World} {b : Nat} {es : Array MapEntry} {c : Nat} (o : Obj) (h : w.heap[b]? = some (.map es c)) : (setObj b o).run P w = .ok () (put w b o) := by simp [setObj, Sem.run, h, put]
theorem heap_put {w : World} {b : Nat} {o o' : Obj} (h : w.heap[b]? = some o') : (put w b o).heap[b]? = some o := by
  have := lt_blk h
  simp [put, this]
theorem fr_put (w : World) (b : Nat) (o : Obj) : Fr (fun x => x = b) w (put w b o) :=
  ⟨rfl, rfl, rfl, by simp [put], fun x _ hn => by simp only [put, Array.getElem?_setIfInBounds]; rw [if_neg (fun e => hn e.symm)]⟩

theorem find_at (L : KeyLaw P kt enc) {es : List MapEntry} {m : List (κ × Value)} (h : es.map (fun e => (e.key, e.val)) = m.map (fun p => (enc p.1, p.2))) (k : κ) (w : World) :
    (Instr.findKey kt (enc k) es).run P w = .ok ((posOf k (m.map (·.1))).bind fun j => (m[j]?).map fun e => (j, e.2)) w := by
  rw [findKey_law L k w es (m.map (·.1)) (keys_of h)]
  congr 1
  cases posOf k (m.map (·.1)) with
  | none => rfl
  | some j =>
    have := vals_of h j
    simp only [Option.bind_some]
    cases h1 : es[j]? <;> cases h2 : m[j]? <;> simp_all

theorem run_map_lookup (L : KeyLaw P kt enc) (ht : P.underlying t = some (.map kt et)) {w : World} {b : Nat} {m : List (κ × Value)} (h : MapIs enc w b m) (k : κ) (z : Value) (hz : (zeroValue et).run P w = .ok z w) (ok : Bool) :
    (Instr.lookup t (.map (some b)) (enc k) ok).run P w = .ok (if ok then .tuple #[(mapGet m k).getD z, .bool (mapGet m k).isSome] else (mapGet m k).getD z) w := by
  obtain ⟨es, clock, hb, hes, hn, _, _⟩ := h
  unfold Instr.lookup
  simp only [Sem.run_bind, run_underlying ht, Result.andThen, getObj_map hb, Sem.run_pure, L.check, find_at L hes k w]
  unfold mapGet
  cases hp : posOf k (m.map (·.1)) with
  | none => cases ok <;> simp [hz, Result.andThen]
  | some j =>
    have hj := posOf_some hp
    simp only [List.getElem?_map] at hj
    cases hm : m[j]? with
    | none => simp [hm] at hj
    | some p => cases ok <;> simp [hm]

theorem mapSet_length {m : List (κ × Value)} {k : κ} {v : Value} : (mapSet m k v).length ≤ m.length + 1 := by
  unfold mapSet
  split <;> simp

theorem set_keys {m : List (κ × Value)} {k : κ} {v : Value} {j : Nat} (h : posOf k (m.map (·.1)) = some j) : (m.set j (k, v)).map (·.1) = m.map (·.1) := by
  have hj := posOf_some h
  apply List.ext_getElem?
  intro i
  simp only [List.map_set, List.getElem?_set]
  by_cases hi : j = i
  · subst hi
    have hlt : j < m.length := by have := (List.getElem?_eq_some_iff.1 hj).1; simpa using this
    simp only [if_true, List.length_map, hlt]
    exact hj.symm
  · simp [hi]

/-- 'm[k] = v' -/
theorem run_map_set (L : KeyLaw P kt enc) (ht : P.underlying t = some (.map kt et)) {w : World} {b : Nat} {m : List (κ × Value)} (h : MapIs enc w b m) (k : κ) (v : Value) :
    ∃ w', (Instr.mapUpdate t (.map (some b)) (enc k) v).run P w = .ok () w' ∧ MapIs enc w' b (mapSet m k v) ∧ Fr (fun x => x = b) w w' := by
  obtain ⟨es, clock, hb, hes, hn, hbn, hbl⟩ := h
  unfold Instr.mapUpdate mapSet
  simp only [Sem.run_bind, run_underlying ht, Result.andThen, getObj_map hb, L.check, find_at L hes k w]
  cases hp : posOf k (m.map (·.1)) with
  | none =>
    refine ⟨put w b (.map (es.push { key := enc k, val := v, born := clock }) (clock + 1)), by simp [setObj_map _ hb], ⟨_, _, heap_put hb, ?_, ?_, ?_, ?_⟩, fr_put w b _⟩
    · simp [hes]
    · have hk := posOf_none.1 hp
      simp only [List.map_append, List.map_cons, List.map_nil, List.nodup_append, List.nodup_cons, List.not_mem_nil, not_false_eq_true, List.nodup_nil, and_self, List.mem_singleton]
      refine ⟨hn, trivial, ?_⟩
      rintro a ha x rfl rfl
      exact hk ha
    · simp only [Array.toList_push, List.map_append, List.map_cons, List.map_nil, List.nodup_append, List.nodup_cons, List.not_mem_nil, not_false_eq_true, List.nodup_nil, and_self, List.mem_singleton]
      refine ⟨hbn, trivial, ?_⟩
      rintro a ha x rfl rfl
      obtain ⟨e, he, he2⟩ := List.mem_map.1 ha
      have := hbl e he; omega
    · intro e he
      simp only [Array.toList_push, List.mem_append, List.mem_singleton] at he
      rcases he with he | rfl
      · have := hbl e he; omega
      · simp
  | some j =>
    have hj := posOf_some hp
    have hjm : (m[j]?).map (·.1) = some k := by simpa using hj
    obtain ⟨p, hpj, hpk⟩ := Option.map_eq_some_iff.1 hjm
    have hejk : (es[j]?).map (fun e => (e.key, e.val)) = some (enc k, p.2) := by
      have := congrArg (fun l => l[j]?) hes
      simp only [List.getElem?_map, Array.getElem?_toList] at this
      rw [this, hpj]; simp [hpk]
    obtain ⟨e0, he0, hev⟩ := Option.map_eq_some_iff.1 hejk
    simp only [Prod.mk.injEq] at hev
    refine ⟨put w b (.map (es.modify j fun e => { e with key := enc k, val := v }) clock), ?_, ⟨_, _, heap_put hb, ?_, by rw [set_keys hp]; exact hn, ?_, ?_⟩, fr_put w b _⟩
    · simp [hpj, he0, hev.1, Instr.keyThatStays, L.same, setObj_map _ hb]
    · apply List.ext_getElem?
      intro i
      have hi := congrArg (fun l => l[i]?) hes
      simp only [List.getElem?_map, Array.getElem?_toList] at hi
      simp only [List.getElem?_map, Array.getElem?_toList, Array.getElem?_modify, List.getElem?_set]
      by_cases hji : j = i
      · subst hji
        have hlt : j < m.length := (List.getElem?_eq_some_iff.1 hpj).1
        simp [he0, hlt]
      · simp [hji, hi]
    · have hbm : (es.modify j fun e => { e with key := enc k, val := v }).toList.map (·.born) = es.toList.map (·.born) := by
        apply List.ext_getElem?
        intro i
        simp only [List.getElem?_map, Array.getElem?_toList, Array.getElem?_modify]
        by_cases hji : j = i
        · subst hji; cases es[j]? <;> simp
        · simp [hji]
      rw [hbm]; exact hbn
    · intro e he
      obtain ⟨i, hi⟩ := List.getElem?_of_mem he
      simp only [Array.getElem?_toList, Array.getElem?_modify] at hi
      by_cases hji : j = i
      · subst hji
        simp only [if_true, he0, Option.map_some, Option.some.injEq] at hi
        subst hi
        exact hbl e0 (List.mem_of_getElem? (by rw [Array.getElem?_toList]; exact he0))
      · rw [if_neg hji] at hi
        exact hbl e (List.mem_of_getElem? (by rw [Array.getElem?_toList]; exact hi))

/-- 'delete(m, k)' -/
theorem run_map_del (L : KeyLaw P kt enc) (ht : P.underlying t = some (.map kt et)) {w : World} {b : Nat} {m : List (κ × Value)} (h : MapIs enc w b m) (k : κ) (ty : TypeId) (kt' : TypeId) :
    ∃ w', (Builtin.delete_ #[t, kt'] ty #[.map (some b), enc k]).run P w = .ok (.tuple #[]) w' ∧ MapIs enc w' b (mapDel m k) ∧ Fr (fun x => x = b) w w' := by
  obtain ⟨es, clock, hb, hes, hn, hbn, hbl⟩ := h
  unfold Builtin.delete_ mapDel
  simp only [Sem.run_bind, run_underlying ht, Result.andThen, getObj_map hb, L.check, find_at L hes k w, List.getElem?_toArray, List.getElem?_cons_zero, List.getElem?_cons_succ]
  cases hp : posOf k (m.map (·.1)) with
  | none => exact ⟨put w b (.map es clock), by simp [setObj_map _ hb, Result.andThen], ⟨_, _, heap_put hb, hes, hn, hbn, hbl⟩, fr_put w b _⟩
  | some j =>
    have hj := posOf_some hp
    have hjm : (m[j]?).map (·.1) = some k := by simpa using hj
    obtain ⟨p, hpj, hpk⟩ := Option.map_eq_some_iff.1 hjm
    have hel : (es.eraseIdxIfInBounds j).toList = es.toList.eraseIdx j := by
      unfold Array.eraseIdxIfInBounds
      split
      · simp
      · rename_i hh; rw [List.eraseIdx_of_length_le (by simpa using hh)]
    refine ⟨put w b (.map (es.eraseIdxIfInBounds j) clock), by simp [hpj, setObj_map _ hb, Result.andThen], ⟨_, _, heap_put hb, ?_, ?_, ?_, ?_⟩, fr_put w b _⟩
    · rw [hel, map_erase, map_erase, hes]
    · rw [map_erase]; exact hn.sublist (List.eraseIdx_sublist _ _)
    · rw [hel, map_erase]; exact hbn.sublist (List.eraseIdx_sublist _ _)
    · intro e he
      rw [hel] at he
      exact hbl e (List.mem_of_mem_eraseIdx he)
end

/-- the iterator in block it goes through the map in block b, which holds m; the keys D have been met -/
def Iter {κ : Type} (enc : κ → Value) (w : World) (it b : Nat) (m : List (κ × Value)) (D : List κ) : Prop :=
  ∃ es clock since seen last, w.heap[b]? = some (.map es clock) ∧ w.heap[it]? = some (.mapIter (some b) since seen last) ∧
    es.toList.map (fun e => (e.key, e.val)) = m.map (fun p => (enc p.1, p.2)) ∧ (m.map (·.1)).Nodup ∧ (es.toList.map (·.born)).Nodup ∧ (∀ e ∈ es.toList, e.born < clock) ∧
    (∀ e ∈ es.toList, e.born < since) ∧ since ≤ last ∧ since ≤ clock ∧ ∀ (i : Nat) (e : MapEntry) (p : κ × Value), es[i]? = some e → m[i]? = some p → (e.born ∈ seen ↔ p.1 ∈ D)

section
variable {κ : Type} {enc : κ → Value}

theorem Iter.map {w : World} {it b : Nat} {m : List (κ × Value)} {D : List κ} (h : Iter enc w it b m D) : MapIs enc w b m := by
  obtain ⟨es, clock, _, _, _, h1, _, h2, h3, h4, h5, _⟩ := h
  exact ⟨es, clock, h1, h2, h3, h4, h5⟩

theorem Iter.fr {S : Nat → Prop} {w w' : World} {it b : Nat} {m : List (κ × Value)} {D : List κ} (h : Iter enc w it b m D) (hf : Fr S w w') (h1 : ¬ S it) (h2 : ¬ S b) : Iter enc w' it b m D := by
  obtain ⟨es, clock, since, seen, last, k1, k2, k3⟩ := h
  exact ⟨es, clock, since, seen, last, hf.at k1 h2, hf.at k2 h1, k3⟩

theorem run_iter_new {P : Program} {kt et t : TypeId} (ht : P.underlying t = some (.map kt et)) {w : World} {b : Nat} {m : List (κ × Value)} (h : MapIs enc w b m) :
    ∃ o, (Instr.range t (.map (some b))).run P w = .ok (.pointer (some ⟨w.heap.size, 0, none⟩)) (w.alloc o) ∧ Iter enc (w.alloc o) w.heap.size b m [] := by
  have hlt := h.lt
  obtain ⟨es, clock, h1, h2, h3, h4, h5⟩ := h
  refine ⟨.mapIter (some b) clock #[] clock, ?_, es, clock, clock, #[], clock, ?_, ?_, h2, h3, h4, h5, h5, Nat.le_refl _, Nat.le_refl _, ?_⟩
  · simp [Instr.range, run_underlying ht, getObj_map h1, newObj, Sem.run, Result.andThen]
  · rw [heap_alloc, if_neg (by omega)]; exact h1
  · rw [heap_alloc, if_pos rfl]
  · intro i e p _ _; simp

theorem run_iter_next {P : Program} {w : World} {it b : Nat} {m : List (κ × Value)} {D : List κ} (h : Iter enc w it b m D) (hne : it ≠ b) (ty : TypeId) :
    ((∀ p ∈ m, p.1 ∈ D) ∧ (Instr.next (.pointer (some ⟨it, 0, none⟩)) false ty).run P w = .ok (.tuple #[.bool false]) w) ∨
    ∃ p ∈ m, p.1 ∉ D ∧ ∃ w', (Instr.next (.pointer (some ⟨it, 0, none⟩)) false ty).run P w = .ok (.tuple #[.bool true, enc p.1, p.2]) w' ∧ Iter enc w' it b m (p.1 :: D) ∧ Fr (fun x => x = it) w w' ∧
      (Instr.entry (.pointer (some ⟨it, 0, none⟩))).run P w' = .ok (.tuple #[enc p.1, p.2]) w' := by
  obtain ⟨es, clock, since, seen, last, hb, hi, hes, hn, hbn, hbl, hold, hsc, hcl, hD⟩ := h
  have hpair : ∀ (i : Nat) (e : MapEntry), es[i]? = some e → ∃ p, m[i]? = some p ∧ e.key = enc p.1 ∧ e.val = p.2 := by
    intro i e he
    have := congrArg (fun l => l[i]?) hes
    simp only [List.getElem?_map, Array.getElem?_toList, he, Option.map_some] at this
    cases hm : m[i]? with
    | none => simp [hm] at this
    | some p => simp [hm] at this; exact ⟨p, rfl, this.1, this.2⟩
  have hidx : ∀ (i j : Nat) (e e' : MapEntry), es[i]? = some e → es[j]? = some e' → e.born = e'.born → i = j := by
    intro i j e e' h1 h2 h3
    have hbi : (es.toList.map (·.born))[i]? = some e.born := by simp [h1]
    have hbj : (es.toList.map (·.born))[j]? = some e.born := by simp [h2, h3]
    exact (List.getElem?_inj (List.getElem?_eq_some_iff.1 hbi).1 hbn).1 (hbi.trans hbj.symm)
  rcases run_next_at (P := P) w ty it b since last seen es clock hi hb hold hsc with ⟨h0, hr⟩ | ⟨e, he, w1, hw1, hr⟩
  · refine .inl ⟨fun p hp => ?_, hr⟩
    obtain ⟨i, hip⟩ := List.getElem?_of_mem hp
    have hlen : es.size = m.length := by have := congrArg List.length hes; simpa using this
    have hlt : i < es.size := by rw [hlen]; exact (List.getElem?_eq_some_iff.1 hip).1
    have he := Array.getElem?_eq_getElem hlt
    rw [← hD i _ p he hip]
    have hnot : ¬ es[i] ∈ leftOf es seen := by
      intro hx
      have : 0 < (leftOf es seen).size := Array.size_pos_of_mem hx
      omega
    simp only [leftOf, Array.mem_filter, Array.getElem_mem, true_and, Bool.not_eq_true', Bool.not_eq_false] at hnot
    simpa using hnot
  · right
    have hmem : e ∈ es ∧ e.born ∉ seen := by
      have he' : e ∈ leftOf es seen := by simpa using he
      simp only [leftOf, Array.mem_filter] at he'
      exact ⟨he'.1, by simpa using he'.2⟩
    obtain ⟨i, hie⟩ := List.getElem?_of_mem (Array.mem_toList_iff.2 hmem.1)
    rw [Array.getElem?_toList] at hie
    obtain ⟨p, hp, hk, hv⟩ := hpair i e hie
    have hb1 : w1.heap[b]? = some (.map es clock) := by rcases hw1 with rfl | rfl <;> exact hb
    have hi1 : w1.heap[it]? = some (.mapIter (some b) since seen last) := by rcases hw1 with rfl | rfl <;> exact hi
    have hf1 : Fr (fun x => x = it) w w1 := by rcases hw1 with rfl | rfl; exact Fr.refl _ _; exact (Fr.refl _ _).drew
    have hset : ∀ o, ChangeMaps.setBlock w1 it o = put w1 it o := fun _ => rfl
    rw [hset, hk, hv] at hr
    have hbw : (put w1 it (.mapIter (some b) since (seen.push e.born) clock)).heap[b]? = some (.map es clock) := (fr_put w1 it _).at hb1 (fun e => hne e.symm)
    have hiw : (put w1 it (.mapIter (some b) since (seen.push e.born) clock)).heap[it]? = some (.mapIter (some b) since (seen.push e.born) clock) := heap_put hi1
    refine ⟨p, List.mem_of_getElem? hp, fun hpd => hmem.2 ((hD i e p hie hp).2 hpd), _, hr, ⟨es, clock, since, seen.push e.born, clock, hbw, hiw, hes, hn, hbn, hbl, hold, hcl, hcl, ?_⟩, hf1.trans (fr_put w1 it _) (fun _ _ hx => hx), ?_⟩
    · intro j e' p' he' hp'
      rw [Array.mem_push, List.mem_cons, hD j e' p' he' hp']
      constructor
      · rintro (h1 | h1)
        · exact .inr h1
        · have := hidx j i e' e he' hie h1
          subst this
          rw [hp] at hp'; cases hp'
          exact .inl rfl
      · rintro (h1 | h1)
        · right
          have hki : (m.map (·.1))[i]? = some p.1 := by simp [hp]
          have hkj : (m.map (·.1))[j]? = some p.1 := by simp [hp', h1]
          have := (List.getElem?_inj (List.getElem?_eq_some_iff.1 hki).1 hn).1 (hki.trans hkj.symm)
          subst this
          rw [hie] at he'; cases he'; rfl
        · exact .inl h1
    · have := run_entry_at (P := P) _ it b since seen es clock e hiw hbw (Array.mem_toList_iff.2 hmem.1) hbn
      rw [hk, hv] at this
      exact this
end

section
variable {P : Program} {kt et t : TypeId} {κ : Type} [DecidableEq κ] {enc : κ → Value} {w : World} {b : Nat} {m : List (κ × Value)} {a : Act} {K : Act → World → Prop} {Q : Exit → Act → World → Prop} {o : Oper} {ops : Array Oper} {rest : List Oper}

theorem wp_map_lookup (L : KeyLaw P kt enc) (ht : P.underlying t = some (.map kt et)) (x ix : Operand) (ok : Bool) (ho : o.op = .lookup t x ix ok) (h : MapIs enc w b m) (k : κ) (z : Value) (hz : ∀ w, (zeroValue et).run P w = .ok z w)
    (hx : a.eval x = .map (some b)) (hk : a.eval ix = enc k) (hK : K (a.put o.dst (if ok then .tuple #[(mapGet m k).getD z, .bool (mapGet m k).isSome] else (mapGet m k).getD z)) w) : o.wp P a w K Q := by
  have hr := run_map_lookup L ht h k z (hz w) ok
  unfold Oper.wp
  simp only [execOp, ho, hx, hk, Sem.run_bind, hr, Result.andThen, Sem.run_pure, Oper.upon]
  exact hK

theorem wp_map_set (L : KeyLaw P kt enc) (ht : P.underlying t = some (.map kt et)) (x ix y : Operand) (ho : o.op = .mapUpdate t x ix y) (h : MapIs enc w b m) (k : κ) (v : Value)
    (hx : a.eval x = .map (some b)) (hk : a.eval ix = enc k) (hv : a.eval y = v) (hK : ∀ w', MapIs enc w' b (mapSet m k v) → Fr (fun x => x = b) w w' → K (a.put o.dst undef) w') : o.wp P a w K Q := by
  obtain ⟨w', hr, h1, h2⟩ := run_map_set L ht h k v
  unfold Oper.wp
  simp only [execOp, ho, hx, hk, hv, Sem.run_bind, hr, Result.andThen, Sem.run_pure, Oper.upon]
  exact hK w' h1 h2

theorem wp_map_del (L : KeyLaw P kt enc) (ht : P.underlying t = some (.map kt et)) (x ix : Operand) (t' : TypeId) (ho : o.op = .call { callee := .builtin .delete, args := #[x, ix], argTypes := #[t, t'] }) (h : MapIs enc w b m) (k : κ)
    (hx : a.eval x = .map (some b)) (hk : a.eval ix = enc k) (hK : ∀ w', MapIs enc w' b (mapDel m k) → Fr (fun x => x = b) w w' → K (a.put o.dst (.tuple #[])) w') : o.wp P a w K Q := by
  obtain ⟨w', hr, h1, h2⟩ := run_map_del L ht h k o.type t'
  unfold Oper.wp
  simp only [execOp, ho, resolve, invoke, builtin, hx, hk, List.map_toArray, List.map_cons, List.map_nil, Sem.run_bind, hr, Result.andThen, Sem.run_pure, Oper.upon]
  exact hK w' h1 h2

omit [DecidableEq κ] in
theorem wp_iter_new (ht : P.underlying t = some (.map kt et)) (x : Operand) (ho : o.op = .range t x) (h : MapIs enc w b m) (hx : a.eval x = .map (some b))
    (hK : ∀ oo, Iter enc (w.alloc oo) w.heap.size b m [] → K (a.put o.dst (.pointer (some ⟨w.heap.size, 0, none⟩))) (w.alloc oo)) : o.wp P a w K Q := by
  obtain ⟨oo, hr, h1⟩ := run_iter_new (P := P) ht h
  unfold Oper.wp
  simp only [execOp, ho, hx, Sem.run_bind, hr, Result.andThen, Sem.run_pure, Oper.upon]
  exact hK oo h1

omit [DecidableEq κ] in
theorem wp_iter_next {it : Nat} {D : List κ} (x : Operand) (ho : o.op = .next x false) (h : Iter enc w it b m D) (hne : it ≠ b) (hx : a.eval x = .pointer (some ⟨it, 0, none⟩))
    (h0 : (∀ p ∈ m, p.1 ∈ D) → K (a.put o.dst (.tuple #[.bool false])) w)
    (h1 : ∀ p ∈ m, p.1 ∉ D → ∀ w', Iter enc w' it b m (p.1 :: D) → Fr (fun x => x = it) w w' → (Instr.entry (.pointer (some ⟨it, 0, none⟩))).run P w' = .ok (.tuple #[enc p.1, p.2]) w' → K (a.put o.dst (.tuple #[.bool true, enc p.1, p.2])) w') : o.wp P a w K Q := by
  unfold Oper.wp
  rcases run_iter_next (P := P) h hne o.type with ⟨hd, hr⟩ | ⟨p, hp, hpd, w', hr, k1, k2, k3⟩
  · simp only [execOp, ho, hx, Sem.run_bind, hr, Result.andThen, Sem.run_pure, Oper.upon]
    exact h0 hd
  · simp only [execOp, ho, hx, Sem.run_bind, hr, Result.andThen, Sem.run_pure, Oper.upon]
    exact h1 p hp hpd w' k1 k2 k3

theorem wpList_map_lookup (hgd : o.guard = none) (L : KeyLaw P kt enc) (ht : P.underlying t = some (.map kt et)) (x ix : Operand) (ok : Bool) (ho : o.op = .lookup t x ix ok) (h : MapIs enc w b m) (k : κ) (z : Value) (hz : ∀ w, (zeroValue et).run P w = .ok z w)
    (hx : a.eval x = .map (some b)) (hk : a.eval ix = enc k) (hK : wpList P ops Q rest (a.put o.dst (if ok then .tuple #[(mapGet m k).getD z, .bool (mapGet m k).isSome] else (mapGet m k).getD z)) w) : wpList P ops Q (o :: rest) a w :=
  wpList_plain hgd fun _ hk' => wp_map_lookup L ht x ix ok ho h k z hz hx hk (hk' _ _ hK)
theorem wpList_map_set (hgd : o.guard = none) (L : KeyLaw P kt enc) (ht : P.underlying t = some (.map kt et)) (x ix y : Operand) (ho : o.op = .mapUpdate t x ix y) (h : MapIs enc w b m) (k : κ) (v : Value)
    (hx : a.eval x = .map (some b)) (hk : a.eval ix = enc k) (hv : a.eval y = v) (hK : ∀ w', MapIs enc w' b (mapSet m k v) → Fr (fun x => x = b) w w' → wpList P ops Q rest (a.put o.dst undef) w') : wpList P ops Q (o :: rest) a w :=
  wpList_plain hgd fun _ hk' => wp_map_set L ht x ix y ho h k v hx hk hv (fun w' h1 h2 => hk' _ _ (hK w' h1 h2))
theorem wpList_map_del (hgd : o.guard = none) (L : KeyLaw P kt enc) (ht : P.underlying t = some (.map kt et)) (x ix : Operand) (t' : TypeId) (ho : o.op = .call { callee := .builtin .delete, args := #[x, ix], argTypes := #[t, t'] }) (h : MapIs enc w b m) (k : κ)
    (hx : a.eval x = .map (some b)) (hk : a.eval ix = enc k) (hK : ∀ w', MapIs enc w' b (mapDel m k) → Fr (fun x => x = b) w w' → wpList P ops Q rest (a.put o.dst (.tuple #[])) w') : wpList P ops Q (o :: rest) a w :=
  wpList_plain hgd fun _ hk' => wp_map_del L ht x ix t' ho h k hx hk (fun w' h1 h2 => hk' _ _ (hK w' h1 h2))
omit [DecidableEq κ] in
theorem wpList_iter_new (hgd : o.guard = none) (ht : P.underlying t = some (.map kt et)) (x : Operand) (ho : o.op = .range t x) (h : MapIs enc w b m) (hx : a.eval x = .map (some b))
    (hK : ∀ oo, Iter enc (w.alloc oo) w.heap.size b m [] → wpList P ops Q rest (a.put o.dst (.pointer (some ⟨w.heap.size, 0, none⟩))) (w.alloc oo)) : wpList P ops Q (o :: rest) a w :=
  wpList_plain hgd fun _ hk' => wp_iter_new ht x ho h hx (fun oo h1 => hk' _ _ (hK oo h1))
omit [DecidableEq κ] in
theorem wpList_iter_next (hgd : o.guard = none) {it : Nat} {D : List κ} (x : Operand) (ho : o.op = .next x false) (h : Iter enc w it b m D) (hne : it ≠ b) (hx : a.eval x = .pointer (some ⟨it, 0, none⟩))
    (h0 : (∀ p ∈ m, p.1 ∈ D) → wpList P ops Q rest (a.put o.dst (.tuple #[.bool false])) w)
    (h1 : ∀ p ∈ m, p.1 ∉ D → ∀ w', Iter enc w' it b m (p.1 :: D) → Fr (fun x => x = it) w w' → (Instr.entry (.pointer (some ⟨it, 0, none⟩))).run P w' = .ok (.tuple #[enc p.1, p.2]) w' → wpList P ops Q rest (a.put o.dst (.tuple #[.bool true, enc p.1, p.2])) w') : wpList P ops Q (o :: rest) a w :=
  wpList_plain hgd fun _ hk' => wp_iter_next x ho h hne hx (fun hd => hk' _ _ (h0 hd)) (fun p hp hpd w' k1 k2 k3 => hk' _ _ (h1 p hp hpd w' k1 k2 k3))
end

section
variable {P : Program} {w : World} {a : Act} {K : Act → World → Prop} {Q : Exit → Act → World → Prop} {o : Oper} {ops : Array Oper} {rest : List Oper}
theorem wp_make_map (t : TypeId) (ho : o.op = .makeMap t none) (hK : K (a.put o.dst (.map (some w.heap.size))) (w.alloc (.map #[] 0))) : o.wp P a w K Q := by
  have hr : (Instr.makeMap t none).run P w = .ok (.map (some w.heap.size)) (w.alloc (.map #[] 0)) := rfl
  unfold Oper.wp
  simp only [execOp, ho, Option.map_none, Sem.run_bind, hr, Result.andThen, Sem.run_pure, Oper.upon]
  exact hK
theorem wpList_make_map (hgd : o.guard = none) (t : TypeId) (ho : o.op = .makeMap t none) (hK : wpList P ops Q rest (a.put o.dst (.map (some w.heap.size))) (w.alloc (.map #[] 0))) : wpList P ops Q (o :: rest) a w :=
  wpList_plain hgd fun _ hk' => wp_make_map t ho (hk' _ _ hK)
theorem wp_entry (x : Operand) (ho : o.op = .entry x) {v r : Value} (hx : a.eval x = v) (hr : (Instr.entry v).run P w = .ok r w) (hK : K (a.put o.dst r) w) : o.wp P a w K Q := by
  unfold Oper.wp
  simp only [execOp, ho, hx, Sem.run_bind, hr, Result.andThen, Sem.run_pure, Oper.upon]
  exact hK
theorem wpList_entry (hgd : o.guard = none) (x : Operand) (ho : o.op = .entry x) {v r : Value} (hx : a.eval x = v) (hr : (Instr.entry v).run P w = .ok r w) (hK : wpList P ops Q rest (a.put o.dst r) w) : wpList P ops Q (o :: rest) a w :=
  wpList_plain hgd fun _ hk' => wp_entry x ho hx hr (hk' _ _ hK)
end

section
variable {P : Program} {w w' : World} {a : Act} {K : Act → World → Prop} {Q : Exit → Act → World → Prop} {o : Oper} {ops : Array Oper} {rest : List Oper}
theorem wp_next_run (x : Operand) (ho : o.op = .next x false) {v r : Value} (hx : a.eval x = v) (hr : (Instr.next v false 0).run P w = .ok r w') (hK : K (a.put o.dst r) w') : o.wp P a w K Q := by
  have hr' : (Instr.next v false o.type).run P w = .ok r w' := hr
  unfold Oper.wp
  simp only [execOp, ho, hx, Sem.run_bind, hr', Result.andThen, Sem.run_pure, Oper.upon]
  exact hK
theorem wpList_next_run (hgd : o.guard = none) (x : Operand) (ho : o.op = .next x false) {v r : Value} (hx : a.eval x = v) (hr : (Instr.next v false 0).run P w = .ok r w') (hK : wpList P ops Q rest (a.put o.dst r) w') : wpList P ops Q (o :: rest) a w :=
  wpList_plain hgd fun _ hk' => wp_next_run x ho hx hr (hk' _ _ hK)
theorem wp_map_len {κ : Type} {enc : κ → Value} {kt et t : TypeId} {b : Nat} {m : List (κ × Value)} (ht : P.underlying t = some (.map kt et)) (x : Operand) (ho : o.op = .call { callee := .builtin .len, args := #[x], argTypes := #[t] }) (h : MapIs enc w b m)
    (hx : a.eval x = .map (some b)) (hK : K (a.put o.dst (.int .i64 m.length)) w) : o.wp P a w K Q := by
  have hr := run_map_len (P := P) ht h o.type
  unfold Oper.wp
  simp only [execOp, ho, resolve, invoke, builtin, hx, List.map_toArray, List.map_cons, List.map_nil, Sem.run_bind, hr, Result.andThen, Sem.run_pure, Oper.upon]
  exact hK
theorem wpList_map_len {κ : Type} {enc : κ → Value} {kt et t : TypeId} {b : Nat} {m : List (κ × Value)} (hgd : o.guard = none) (ht : P.underlying t = some (.map kt et)) (x : Operand) (ho : o.op = .call { callee := .builtin .len, args := #[x], argTypes := #[t] }) (h : MapIs enc w b m)
    (hx : a.eval x = .map (some b)) (hK : wpList P ops Q rest (a.put o.dst (.int .i64 m.length)) w) : wpList P ops Q (o :: rest) a w :=
  wpList_plain hgd fun _ hk' => wp_map_len ht x ho h hx (hk' _ _ hK)
end

/-- integers as keys -/
theorem keyLaw_int {P : Program} {kt : TypeId} {k : IntKind} (h : P.underlying kt = some (.int k)) : KeyLaw P kt (fun z : Int => .int k z) where
  now := ⟨.int k, h, fun a b => .inr (by simp only [Instr.sameNow, if_true]; congr 1)⟩
  check := fun empty z w => by unfold Instr.checkKey; simp [run_underlying h]
  eq := fun a b w => by
    simp only [Op.equal, Op.maxDepth, run_equalIn_int (P := P) w 9999 kt k k a b h]
    rfl
  same := fun z => by simp [Instr.sameBits]

theorem mapGet_none {κ : Type} [DecidableEq κ] {m : List (κ × Value)} {k : κ} : mapGet m k = none ↔ k ∉ m.map (·.1) := by
  unfold mapGet
  rw [← posOf_none]
  cases hp : posOf k (m.map (·.1)) with
  | none => simp
  | some j =>
    have hj := posOf_some hp
    simp only [List.getElem?_map] at hj
    cases hm : m[j]? with
    | none => simp [hm] at hj
    | some p => simp [hm]
theorem mapGet_some {κ : Type} [DecidableEq κ] {m : List (κ × Value)} {k : κ} {v : Value} (hn : (m.map (·.1)).Nodup) : mapGet m k = some v ↔ (k, v) ∈ m := by
  unfold mapGet
  constructor
  · intro h
    obtain ⟨j, hj, hv⟩ := Option.bind_eq_some_iff.1 h
    obtain ⟨p, hp, rfl⟩ := Option.map_eq_some_iff.1 hv
    have := posOf_some hj
    simp only [List.getElem?_map, hp, Option.map_some, Option.some.injEq] at this
    subst this
    exact List.mem_of_getElem? hp
  · intro h
    obtain ⟨i, hi⟩ := List.getElem?_of_mem h
    have hki : (m.map (·.1))[i]? = some k := by simp [hi]
    cases hp : posOf k (m.map (·.1)) with
    | none => exact absurd (List.mem_of_getElem? hki) (posOf_none.1 hp)
    | some j =>
      have hj := posOf_some hp
      have := (List.getElem?_inj (List.getElem?_eq_some_iff.1 hki).1 hn).1 (hki.trans hj.symm)
      subst this
      simp [hi]
theorem mapSet_new {κ : Type} [DecidableEq κ] {m : List (κ × Value)} {k : κ} {v : Value} (h : k ∉ m.map (·.1)) : mapSet m k v = m ++ [(k, v)] := by
  unfold mapSet; rw [posOf_none.2 h]
theorem mapDel_eq {κ : Type} [DecidableEq κ] {m : List (κ × Value)} {k : κ} (hn : (m.map (·.1)).Nodup) : mapDel m k = m.filter (fun p => decide (p.1 ≠ k)) := by
  induction m with
  | nil => rfl
  | cons p m ih =>
    rw [List.map_cons] at hn
    have hn' := List.nodup_cons.1 hn
    have ih := ih hn'.2
    unfold mapDel at ih ⊢
    by_cases hk : k = p.1
    · subst hk
      simp only [List.map_cons, posOf, if_true, List.eraseIdx_cons_zero]
      rw [List.filter_cons_of_neg (by simp)]
      refine (List.filter_eq_self.2 fun q hq => ?_).symm
      simp only [decide_eq_true_eq]
      intro e
      exact hn'.1 (e ▸ List.mem_map_of_mem hq)
    · simp only [List.map_cons, posOf, if_neg hk]
      rw [List.filter_cons_of_pos (by simpa using fun e => hk e.symm)]
      cases hp : posOf k (m.map (·.1)) with
      | none => rw [hp] at ih; exact congrArg (p :: ·) ih
      | some j => rw [hp] at ih; exact congrArg (p :: ·) ih
end Go.Proofs.YtnjaaagiindclaaGreatDoor

/-
  Maps among the groups. No program in sight.
-/
namespace Go.Proofs.YtnjaaagiindclaaGreatDoor
open Go.RowKit Go.Deep

/-- the group is the map in block b, which holds m -/
def MapG {κ : Type} (enc : κ → Value) (b : Nat) (m : List (κ × Value)) (G : Grp) : Prop :=
  ∃ es clock, G = [(b, .map es clock)] ∧ es.toList.map (fun e => (e.key, e.val)) = m.map (fun p => (enc p.1, p.2)) ∧ (m.map (·.1)).Nodup ∧ (es.toList.map (·.born)).Nodup ∧ ∀ e ∈ es.toList, e.born < clock

section
variable {κ : Type} {enc : κ → Value} {I w w' : World} {b : Nat} {m m' : List (κ × Value)} {G : Grp} {R : List Grp}
theorem MapG.new (enc : κ → Value) (b : Nat) : MapG enc b [] [(b, .map #[] 0)] := ⟨#[], 0, rfl, rfl, by simp, by simp, by simp⟩
theorem Hp.map (h : Hp I w (G :: R)) (g : MapG enc b m G) : MapIs enc w b m := by
  obtain ⟨es, clock, rfl, r⟩ := g
  exact ⟨es, clock, h.blk, r⟩
theorem Hp.mapPut (h : Hp I w (G :: R)) (g : MapG enc b m G) (hm : MapIs enc w' b m') (hf : Fr (fun x => x = b) w w') : ∃ G', MapG enc b m' G' ∧ Hp I w' (G' :: R) := by
  obtain ⟨es, clock, rfl, r⟩ := g
  obtain ⟨es', clock', h1, r'⟩ := hm
  exact ⟨_, ⟨es', clock', rfl, r'⟩, h.put hf h1⟩
theorem Hp.mapNew (h : Hp I w R) (hm : MapIs enc w' b m) (hn : w.heap.size ≤ b) (hf : Fr (fun _ => False) w w') : ∃ G', MapG enc b m G' ∧ Hp I w' (G' :: R) := by
  obtain ⟨es', clock', h1, r'⟩ := hm
  exact ⟨_, ⟨es', clock', rfl, r'⟩, h.add hf h1 hn⟩
end
end Go.Proofs.YtnjaaagiindclaaGreatDoor
