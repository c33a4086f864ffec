/-
  Part 1 of what the statement leans on: Mem, Bld, Row, Flat, Hp, Bd, Rng, Rg2.
-/
import Derived.Test.YteicdpgmclbgjaaGreatDoorRows
import Derived.WalkKit
import Derived.WalkSpells
import Derived.WalkLawsBesides
import Derived.Lib.Hide
import Derived.Laws.AppendOwnNone
import Derived.Deep.Slices
import Derived.Shelf.Strings.BuilderK
import Derived.RangeFuncKeeps
import Derived.RangeFuncBound
import Derived.RangeFuncCalls
import Derived.RangeFuncLeaves
/-
  Plain facts about memory (worlds, blocks, frames), over any program. No condition.
-/
namespace Go.Proofs.YteicdpgmclbgjaaGreatDoor
open Go.RowKit

/-- a cell out of a known block -/
theorem cell_blk {w : World} {b : Nat} {c : Array Value} {t : TypeId} {f : Nat × Nat} (h : w.heap[b]? = some (.cells c t f)) (i : Nat) :
    w.cell? ⟨b, i, none⟩ = c[i]? := by simp [World.cell?, h]
theorem free_blk {w : World} {b : Nat} {c : Array Value} {t : TypeId} (h : w.heap[b]? = some (.cells c t (0, 0))) (i : Nat) :
    w.frozen? ⟨b, i, none⟩ = false := by simp [World.frozen?, h]
theorem blk2 {w : World} {b : Nat} {x0 x1 : Value} {t : TypeId} (h : w.heap[b]? = some (.cells #[x0, x1] t (0, 0))) :
    w.cell? ⟨b, 0, none⟩ = some x0 ∧ w.cell? ⟨b, 1, none⟩ = some x1 := ⟨cell_blk h 0, cell_blk h 1⟩
theorem blk3 {w : World} {b : Nat} {x0 x1 x2 : Value} {t : TypeId} (h : w.heap[b]? = some (.cells #[x0, x1, x2] t (0, 0))) :
    w.cell? ⟨b, 0, none⟩ = some x0 ∧ w.cell? ⟨b, 1, none⟩ = some x1 ∧ w.cell? ⟨b, 2, none⟩ = some x2 := ⟨cell_blk h 0, cell_blk h 1, cell_blk h 2⟩
theorem blk4 {w : World} {b : Nat} {x0 x1 x2 x3 : Value} {t : TypeId} (h : w.heap[b]? = some (.cells #[x0, x1, x2, x3] t (0, 0))) :
    w.cell? ⟨b, 0, none⟩ = some x0 ∧ w.cell? ⟨b, 1, none⟩ = some x1 ∧ w.cell? ⟨b, 2, none⟩ = some x2 ∧ w.cell? ⟨b, 3, none⟩ = some x3 :=
  ⟨cell_blk h 0, cell_blk h 1, cell_blk h 2, cell_blk h 3⟩

theorem heap_setCell (w : World) (a : Addr) (v : Value) (k : Nat) : (w.setCell a v).heap[k]? =
    if k = a.block then (w.heap[k]?).map (fun | .cells c elem fr => .cells (if a.spot.isSome then c else c.setIfInBounds a.off v) elem fr | o => o) else w.heap[k]? := by
  show (w.heap.modify a.block _)[k]? = _
  rw [Array.getElem?_modify]
  by_cases h : a.block = k
  · subst h; simp; rfl
  · rw [if_neg h, if_neg (fun e => h e.symm)]
theorem heap_setCell_ne {w : World} {a : Addr} {v : Value} {k : Nat} (h : k ≠ a.block) : (w.setCell a v).heap[k]? = w.heap[k]? := by
  rw [heap_setCell, if_neg h]
theorem heap_setCell_at {w : World} {b i : Nat} {v : Value} {c : Array Value} {t : TypeId} {f : Nat × Nat} (h : w.heap[b]? = some (.cells c t f)) :
    (w.setCell ⟨b, i, none⟩ v).heap[b]? = some (.cells (c.setIfInBounds i v) t f) := by
  rw [heap_setCell, if_pos rfl, h]; rfl
theorem size_setCell (w : World) (a : Addr) (v : Value) : (w.setCell a v).heap.size = w.heap.size := by simp [World.setCell]
theorem heap_alloc_ne {w : World} {o : Obj} {k : Nat} (h : k < w.heap.size) : (w.alloc o).heap[k]? = w.heap[k]? := Below.heap_alloc w o k h
theorem heap_alloc (w : World) (o : Obj) (k : Nat) : (w.alloc o).heap[k]? = if k = w.heap.size then some o else w.heap[k]? := by
  show (w.heap.push o)[k]? = _
  rw [Array.getElem?_push]
theorem size_alloc (w : World) (o : Obj) : (w.alloc o).heap.size = w.heap.size + 1 := by
  show (w.heap.push o).size = _
  simp
theorem lt_blk {w : World} {b : Nat} {o : Obj} (h : w.heap[b]? = some o) : b < w.heap.size := lt_of_block h

/-- What a call may do: blocks outside of S that were there are as they were; the streams too. -/
structure Fr (S : Nat → Prop) (w w' : World) : Prop where
  os : w'.os = w.os
  tape : w'.tape = w.tape
  output : w'.output = w.output
  size : w.heap.size ≤ w'.heap.size
  same : ∀ b, b < w.heap.size → ¬ S b → w'.heap[b]? = w.heap[b]?

theorem Fr.refl (S : Nat → Prop) (w : World) : Fr S w w := ⟨rfl, rfl, rfl, Nat.le_refl _, fun _ _ _ => rfl⟩
theorem Fr.mono {S T : Nat → Prop} {w w' : World} (h : Fr S w w') (hs : ∀ b, b < w.heap.size → S b → T b) : Fr T w w' :=
  ⟨h.os, h.tape, h.output, h.size, fun b hb hn => h.same b hb (fun hS => hn (hs b hb hS))⟩
theorem Fr.trans {S T : Nat → Prop} {u v w : World} (h : Fr S u v) (k : Fr T v w) (hT : ∀ b, b < u.heap.size → T b → S b) : Fr S u w :=
  ⟨k.os.trans h.os, k.tape.trans h.tape, k.output.trans h.output, Nat.le_trans h.size k.size,
   fun b hb hn => (k.same b (Nat.lt_of_lt_of_le hb h.size) (fun ht => hn (hT b hb ht))).trans (h.same b hb hn)⟩
theorem Fr.drewN {S : Nat → Prop} {u v : World} (h : Fr S u v) (n : Nat) : Fr S u (v.drewN n) := ⟨h.os, h.tape, h.output, h.size, h.same⟩
theorem Fr.drew {S : Nat → Prop} {u v : World} (h : Fr S u v) : Fr S u v.drew := ⟨h.os, h.tape, h.output, h.size, h.same⟩
theorem Fr.alloc {S : Nat → Prop} {u v : World} (h : Fr S u v) (o : Obj) : Fr S u (v.alloc o) :=
  ⟨h.os, h.tape, h.output, Nat.le_trans h.size (by simp), fun b hb hn => (Below.heap_alloc v o b (Nat.lt_of_lt_of_le hb h.size)).trans (h.same b hb hn)⟩
theorem Fr.setCell {S : Nat → Prop} {u v : World} (h : Fr S u v) (p : Addr) (x : Value) (hp : S p.block ∨ u.heap.size ≤ p.block) : Fr S u (v.setCell p x) :=
  ⟨h.os, h.tape, h.output, by rw [size_setCell]; exact h.size, fun b hb hn => (heap_setCell_ne (fun e => by
    subst e
    rcases hp with hp | hp
    · exact hn hp
    · omega)).trans (h.same b hb hn)⟩
theorem Fr.at {S : Nat → Prop} {w w' : World} (h : Fr S w w') {b : Nat} {o : Obj} (hb : w.heap[b]? = some o) (hn : ¬ S b) : w'.heap[b]? = some o :=
  (h.same b (lt_blk hb) hn).trans hb
theorem Fr.below {S : Nat → Prop} {w w' : World} (h : Fr S w w') {B : Nat} (hB : B ≤ w.heap.size) (hS : ∀ b, S b → B ≤ b) : Below B w w' :=
  ⟨h.os, h.tape, h.output, h.size, fun b hb => h.same b (by omega) (fun hs => by have := hS b hs; omega)⟩
theorem Below.fr {w w' : World} (h : Below w.heap.size w w') (S : Nat → Prop) : Fr S w w' := ⟨h.os, h.tape, h.output, h.size, fun b hb _ => h.block b hb⟩
theorem Fr.grownBy {w w' : World} {row : Option Nat} (h : w.grownBy w' row) : Fr (fun b => some b = row) w w' :=
  ⟨h.os, h.tape, h.output, h.size, fun b hb hn => h.block b hb hn⟩

theorem Fr.grown {S : Nat → Prop} {u v v' : World} {e : TypeId} {sz n : Nat} {x : Value} {xs : List Value} (h : Fr S u v) (hg : v.grownBy v' x.ownBlock) (ho : v.ownsRow u.heap.size e sz x n xs) : Fr S u v' :=
  h.trans (Fr.grownBy hg) (fun b hb e => by have := ho.lt b e.symm; omega)

/-- the cells of a block that was just made -/
theorem cells_new (w : World) (vs : List Value) (t : TypeId) : ∀ j u, vs[j]? = some u → (w.alloc (.cells vs.toArray t)).cell? ((⟨w.heap.size, 0, none⟩ : Addr).add j) = some u := by
  intro j u hu
  have : (⟨w.heap.size, 0, none⟩ : Addr).add j = ⟨w.heap.size, j, none⟩ := by unfold Addr.add; split <;> simp_all
  rw [this, cell_blk (by rw [heap_alloc, if_pos rfl])]
  simpa using hu

/-- a slice of new memory is returned -/
def RetRow (T sz n : Nat) (xs : List Value) (w : World) (e : Ending) (w' : World) : Prop :=
  ∃ a c, e = .returned (.slice a n c) ∧ w'.ownsRow w.heap.size T sz (.slice a n c) n xs ∧ Fr (fun _ => False) w w'

/-- a slice of new memory is returned; what S names may have turned; I holds -/
def RetRowI (T sz n : Nat) (xs : List Value) (S : Nat → Prop) (I : World → Prop) (w : World) (e : Ending) (w' : World) : Prop :=
  ∃ a c, e = .returned (.slice a n c) ∧ w'.ownsRow w.heap.size T sz (.slice a n c) n xs ∧ Fr S w w' ∧ I w'

theorem ownsRow_fr {S : Nat → Prop} {w w' : World} {B T sz n : Nat} {v : Value} {xs : List Value} (h : w.ownsRow B T sz v n xs) (hf : Fr S w w') (hS : ∀ b, S b → b < B) : w'.ownsRow B T sz v n xs := by
  refine ⟨h.1, ?_⟩
  rcases h.2 with h2 | ⟨g, cap, cur, hv, hg, hh, r⟩
  · exact .inl h2
  · exact .inr ⟨g, cap, cur, hv, hg, hf.at hh (fun hs => by have := hS g hs; omega), r⟩

theorem ownsRow_mono {w : World} {B B' T sz n : Nat} {v : Value} {xs : List Value} (h : w.ownsRow B T sz v n xs) (hB : B' ≤ B) : w.ownsRow B' T sz v n xs := by
  refine ⟨h.1, ?_⟩
  rcases h.2 with h2 | ⟨g, cap, cur, hv, hg, r⟩
  · exact .inl h2
  · exact .inr ⟨g, cap, cur, hv, by omega, r⟩

theorem ownsRow_form {w : World} {B T sz n : Nat} {v : Value} {xs : List Value} (h : w.ownsRow B T sz v n xs) : ∃ a c, v = .slice a n c := by
  rcases h.2 with ⟨rfl, rfl⟩ | ⟨g, cap, cur, rfl, _⟩
  · exact ⟨_, _, rfl⟩
  · exact ⟨_, _, rfl⟩

theorem RetRow.mk' {T sz n m : Nat} {xs ys : List Value} {w w' : World} {v : Value} (h : w'.ownsRow w.heap.size T sz v n xs) (hf : Fr (fun _ => False) w w') (hn : n = m) (hx : xs = ys) :
    RetRow T sz m ys w (.returned v) w' := by
  subst hn hx
  obtain ⟨a, c, rfl⟩ := ownsRow_form h
  exact ⟨a, c, rfl, h, hf⟩

/-- a slice value of n elements of sz cells that reads as xs -/
def Rd (w : World) (sz : Nat) (v : Value) (n : Nat) (xs : List Value) : Prop :=
  ∃ a c, v = .slice a n c ∧ n ≤ c ∧ xs.length = n * sz ∧ (a = none → c = 0) ∧ ∀ j u, xs[j]? = some u → ∃ ad, a = some ad ∧ w.cell? (ad.add j) = some u

theorem ownsRow_rd {w : World} {B T sz n : Nat} {v : Value} {xs : List Value} (h : w.ownsRow B T sz v n xs) : Rd w sz v n xs := by
  rcases h.2 with ⟨rfl, rfl⟩ | ⟨g, cap, cur, rfl, _, hg, hn, _, _, ht⟩
  · refine ⟨none, 0, rfl, Nat.le_refl _, h.1, fun _ => rfl, ?_⟩
    have : xs = [] := List.eq_nil_of_length_eq_zero (by simpa using h.1)
    subst this; simp
  · refine ⟨_, cap, rfl, hn, h.1, (fun e => by cases e), fun j u hu => ⟨_, rfl, ?_⟩⟩
    exact World.ownsRow.cells h (by rfl) j u hu

theorem Rd.to {w : World} {sz n c : Nat} {a : Option Addr} {xs : List Value} (h : Rd w sz (.slice a n c) n xs) {k : Nat} (hk : k ≤ n) : Rd w sz (.slice a k c) k (xs.take (k * sz)) := by
  obtain ⟨a', c', hv, hc, hl, hn, hx⟩ := h
  simp only [Value.slice.injEq] at hv
  obtain ⟨rfl, _, rfl⟩ := hv
  refine ⟨a, c, rfl, by omega, ?_, hn, fun j u hu => ?_⟩
  · rw [List.length_take, hl]; exact Nat.min_eq_left (Nat.mul_le_mul_right _ hk)
  · rw [List.getElem?_take] at hu
    split at hu
    · exact hx j u hu
    · cases hu

theorem addr_add_zero (a : Addr) : a.add 0 = a := by simp [Addr.add]

theorem Rd.from {w : World} {sz n c : Nat} {a : Option Addr} {xs : List Value} (h : Rd w sz (.slice a n c) n xs) {k : Nat} (hk : k ≤ n) : Rd w sz (sliced a k n c sz) (n - k) (xs.drop (k * sz)) := by
  obtain ⟨a', c', hv, hc, hl, hn, hx⟩ := h
  simp only [Value.slice.injEq] at hv
  obtain ⟨rfl, _, rfl⟩ := hv
  refine ⟨_, _, rfl, by omega, by rw [List.length_drop, hl, Nat.sub_mul], ?_, fun j u hu => ?_⟩
  · intro h0
    split at h0
    · omega
    · have : a = none := by simpa using h0
      have := hn this; omega
  · rw [List.getElem?_drop] at hu
    obtain ⟨ad, rfl, h1⟩ := hx _ u hu
    have hlt : k * sz + j < n * sz := by rw [← hl]; exact (List.getElem?_eq_some_iff.1 hu).1
    have hkn : k < n := by
      rcases Nat.lt_or_ge k n with h | h
      · exact h
      · have := Nat.mul_le_mul_right sz h; omega
    rw [if_neg (by omega)]
    refine ⟨_, rfl, ?_⟩
    rw [Go.Deep.add_add]; exact h1

/-- an empty row just made -/
theorem ownsRow_empty {w : World} {B g : Nat} {e : TypeId} (sz : Nat) (hg : w.heap[g]? = some (.cells #[] e (0, 0))) (hB : B ≤ g) : w.ownsRow B e sz (.slice (some ⟨g, 0, none⟩) 0 0) 0 [] :=
  ⟨by simp, .inr ⟨g, 0, #[], rfl, hB, hg, Nat.le_refl _, by simp [maxLen], by simp, by simp⟩⟩
theorem Fr.of_drewN (S : Nat → Prop) (w : World) (n : Nat) : Fr S w (w.drewN n) := (Fr.refl S w).drewN n

/-- a block's cells known one by one: a slice over them -/
theorem Rd.new {w : World} {g : Nat} {vs : List Value} {t : TypeId} (hg : w.heap[g]? = some (.cells vs.toArray t (0, 0))) (sz n : Nat) (hl : vs.length = n * sz) : Rd w sz (.slice (some ⟨g, 0, none⟩) n n) n vs := by
  refine ⟨_, _, rfl, Nat.le_refl _, hl, (fun e => by cases e), fun j u hu => ⟨_, rfl, ?_⟩⟩
  have : (⟨g, 0, none⟩ : Addr).add j = ⟨g, j, none⟩ := by unfold Addr.add; split <;> simp_all
  rw [this, cell_blk hg]
  simpa using hu

theorem Rd.fr {S : Nat → Prop} {w w' : World} {sz n : Nat} {v : Value} {xs : List Value} (h : Rd w sz v n xs) (hf : Fr S w w') (hS : ∀ a, (∃ c, v = .slice (some a) n c) → ¬ S a.block) : Rd w' sz v n xs := by
  obtain ⟨a, c, rfl, hn, hl, h0, hx⟩ := h
  refine ⟨a, c, rfl, hn, hl, h0, fun j u hu => ?_⟩
  obtain ⟨ad, rfl, hc⟩ := hx j u hu
  refine ⟨ad, rfl, ?_⟩
  have hlt := World.block_lt_of_cell? _ _ hc
  have hb : (ad.add j).block = ad.block := by unfold Addr.add; split <;> rfl
  rw [World.cell?_of_block (w := w) (w' := w') (hf.same _ hlt (by rw [hb]; exact hS ad ⟨c, rfl⟩))]
  exact hc

/-- append of what reads as a row to an own row -/
theorem wpList_append_rd {P : Program} {w w0 : World} {S : Nat → Prop} {ops : Array Oper} {rest : List Oper} {o : Oper} {a : Act} {Q : Exit → Act → World → Prop} (hgd : o.guard = none) (s x : Operand) (t : TypeId)
    (ho : o.op = .call { callee := .builtin .append, args := #[s, x], argTypes := #[t, t] })
    (e : TypeId) (i : TypeInfo) (z : Value) (size bytes : Nat) (ht : P.underlying t = some (.slice e)) (hi : P.info? e = some i) (hz : i.zero = some z)
    (hsize : i.size = size) (hby : i.bytes = bytes) (hzs : z.cells.size = size) (hsz : 0 < size)
    (v : Value) (n : Nat) (xs : List Value) (hs : a.eval s = v) (hown : w.ownsRow w0.heap.size e size v n xs) (hfr : Fr S w0 w)
    (u : Value) (m : Nat) (news : List Value) (hx : a.eval x = u) (hrd : Rd w size u m news) (h1 : ∀ u ∈ news, u.oneCell' = true)
    (h63 : n + m ≤ maxLen) (hbytes : (n + m) * bytes ≤ 140737488355328)
    (h : ∀ v' w', w'.ownsRow w0.heap.size e size v' (n + m) (xs ++ news) → Fr S w0 w' → Fr (fun b => some b = v.ownBlock) w w' → wpList P ops Q rest (a.put o.dst v') w') : wpList P ops Q (o :: rest) a w := by
  obtain ⟨ad, c, rfl, hmc, hl, hnone, hcells⟩ := hrd
  cases ad with
  | none =>
    have hc := hnone rfl
    have hm : m = 0 := by omega
    subst hc hm
    have hnews : news = [] := List.eq_nil_of_length_eq_zero (by simpa using hl)
    subst hnews
    exact wpList_append_own_none hgd s x t ho w0.heap.size e i size ht hi v n xs hs hown hx (h v w (by simpa using hown) hfr (Fr.refl _ _))
  | some ad =>
    exact wpList_append_own w hgd s x t ho w0.heap.size e i z size bytes ht hi hz hsize hby hzs hsz v n xs hs hown ad m c news hx hl
      (fun j u hu => by obtain ⟨ad', he, hc⟩ := hcells j u hu; cases he; exact hc) h1 h63 hbytes hfr.size
      (fun v' w' h2 h3 _ => h v' w' h2 (hfr.grown h3 hown) (Fr.grownBy h3))

/-- x[:k] -/
theorem wpList_slice_to {P : Program} {w : World} {ops : Array Oper} {rest : List Oper} {o : Oper} {a : Act} {Q : Exit → Act → World → Prop} (hgd : o.guard = none) (x hi : Operand) (t : TypeId)
    (ho : o.op = .slice t x none (some hi) none) (e : TypeId) (i : TypeInfo) (ht : P.underlying t = some (.slice e)) (hi' : P.info? e = some i)
    (ad : Option Addr) (n c : Nat) (hx : a.eval x = .slice ad n c) (kk : IntKind) (k : Nat) (hk : a.eval hi = .int kk (k : Int)) (hkc : k ≤ c)
    (h : wpList P ops Q rest (a.put o.dst (.slice ad k c)) w) : wpList P ops Q (o :: rest) a w := by
  have he : P.elem t = e := by simp [Program.elem, ht]
  refine wpList_plain hgd fun K hK => ?_
  have hrun : (Instr.sliceAt t (.slice ad n c) none (some (.int kk (k : Int))) none).run P w = .ok (.slice ad k c) w := by
    rw [run_sliceAt_slice (P := P) (w := w) t _ _ _ _ (by rw [he]; exact ht), run_slice_h (P := P) (w := w) t ad n c (by rw [he]; exact ht) kk k (by omega) (by omega)]
    simp [sizeOf, typeInfo, he, hi', sliced, addr_add_zero, Result.andThen]
  unfold Oper.wp
  simp [execOp, ho, hx, hk, hrun, Result.andThen]
  exact hK _ _ h

/-- x[k:] -/
theorem wpList_slice_from {P : Program} {w : World} {ops : Array Oper} {rest : List Oper} {o : Oper} {a : Act} {Q : Exit → Act → World → Prop} (hgd : o.guard = none) (x lo : Operand) (t : TypeId)
    (ho : o.op = .slice t x (some lo) none none) (e : TypeId) (i : TypeInfo) (sz : Nat) (ht : P.underlying t = some (.slice e)) (hi' : P.info? e = some i) (hsz : i.size = sz)
    (ad : Option Addr) (n c : Nat) (hx : a.eval x = .slice ad n c) (xs : List Value) (hrd : Rd w sz (.slice ad n c) n xs) (kk : IntKind) (k : Nat) (hk : a.eval lo = .int kk (k : Int)) (hkc : k ≤ n)
    (h : ∀ v', Rd w sz v' (n - k) (xs.drop (k * sz)) → wpList P ops Q rest (a.put o.dst v') w) : wpList P ops Q (o :: rest) a w := by
  have he : P.elem t = e := by simp [Program.elem, ht]
  refine wpList_plain hgd fun K hK => ?_
  have hrun : (Instr.sliceAt t (.slice ad n c) (some (.int kk (k : Int))) none none).run P w = .ok (sliced ad k n c sz) w := by
    rw [run_sliceAt_slice (P := P) (w := w) t _ _ _ _ (by rw [he]; exact ht), run_slice_l (P := P) (w := w) t ad n c (by rw [he]; exact ht) kk k (by omega) (by omega)]
    simp [sizeOf, typeInfo, he, hi', hsz, Result.andThen]
  unfold Oper.wp
  simp [execOp, ho, hx, hk, hrun, Result.andThen]
  exact hK _ _ (h _ (hrd.from hkc))

/-- a law at an operation, at a step of a region that draws -/
theorem step_plain {P : Program} {ops : Array Oper} {o : Oper} {a : Act} {w : World} {K : Act → World → Prop} {Q : Exit → Act → World → Prop} {E : Prop} (hgd : o.guard = none) (h : Oper.wp P o a w K Q) :
    if Region.wanted o (yielded ops a.tmps) = true then Oper.wp P o a w K Q else E := by
  rw [if_pos (by simp [Region.wanted, hgd])]; exact h

/-- x[:k] and x[:k:m], as they run -/
theorem run_to {P : Program} (t e : TypeId) (i : TypeInfo) (ht : P.underlying t = some (.slice e)) (hi' : P.info? e = some i) (ad : Option Addr) (n c : Nat) (kk : IntKind) (k : Nat) (hkc : k ≤ c) :
    ∀ w : World, (Instr.slice t (.slice ad n c) none (some (.int kk (k : Int))) none).run P w = .ok (.slice ad k c) w := by
  intro w
  have he : P.elem t = e := by simp [Program.elem, ht]
  rw [run_slice_h (P := P) (w := w) t ad n c (by rw [he]; exact ht) kk k (by omega) (by omega)]
  simp [sizeOf, typeInfo, he, hi', sliced, addr_add_zero, Result.andThen]
theorem run_to3 {P : Program} (t e : TypeId) (i : TypeInfo) (ht : P.underlying t = some (.slice e)) (hi' : P.info? e = some i) (ad : Option Addr) (n c : Nat) (kk km : IntKind) (k m : Nat) (hkm : k ≤ m) (hmc : m ≤ c) :
    ∀ w : World, (Instr.slice t (.slice ad n c) none (some (.int kk (k : Int))) (some (.int km (m : Int)))).run P w = .ok (.slice ad k m) w := by
  intro w
  have he : P.elem t = e := by simp [Program.elem, ht]
  rw [run_slice_hm (P := P) (w := w) t ad n c (by rw [he]; exact ht) kk km k m (by omega) (by omega) (by omega)]
  simp [sizeOf, typeInfo, he, hi', sliced, addr_add_zero, Result.andThen]

/-- x[:k] and x[:k:m], at the operation -/
theorem wp_slice_to {P : Program} {w : World} {o : Oper} {a : Act} {K : Act → World → Prop} {Q : Exit → Act → World → Prop} (x hi : Operand) (t : TypeId)
    (ho : o.op = .slice t x none (some hi) none) (e : TypeId) (i : TypeInfo) (ht : P.underlying t = some (.slice e)) (hi' : P.info? e = some i)
    (ad : Option Addr) (n c : Nat) (hx : a.eval x = .slice ad n c) (kk : IntKind) (k : Nat) (hk : a.eval hi = .int kk (k : Int)) (hkc : k ≤ c)
    (h : K (a.put o.dst (.slice ad k c)) w) : o.wp P a w K Q := by
  have he : P.elem t = e := by simp [Program.elem, ht]
  have hrun : (Instr.sliceAt t (.slice ad n c) none (some (.int kk (k : Int))) none).run P w = .ok (.slice ad k c) w := by
    rw [run_sliceAt_slice (P := P) (w := w) t _ _ _ _ (by rw [he]; exact ht), run_slice_h (P := P) (w := w) t ad n c (by rw [he]; exact ht) kk k (by omega) (by omega)]
    simp [sizeOf, typeInfo, he, hi', sliced, addr_add_zero, Result.andThen]
  unfold Oper.wp
  simp [execOp, ho, hx, hk, hrun, Result.andThen]
  exact h
theorem wp_slice_to3 {P : Program} {w : World} {o : Oper} {a : Act} {K : Act → World → Prop} {Q : Exit → Act → World → Prop} (x hi mx : Operand) (t : TypeId)
    (ho : o.op = .slice t x none (some hi) (some mx)) (e : TypeId) (i : TypeInfo) (ht : P.underlying t = some (.slice e)) (hi' : P.info? e = some i)
    (ad : Option Addr) (n c : Nat) (hx : a.eval x = .slice ad n c) (kk km : IntKind) (k m : Nat) (hk : a.eval hi = .int kk (k : Int)) (hm : a.eval mx = .int km (m : Int)) (hkm : k ≤ m) (hmc : m ≤ c)
    (h : K (a.put o.dst (.slice ad k m)) w) : o.wp P a w K Q := by
  have he : P.elem t = e := by simp [Program.elem, ht]
  have hrun : (Instr.sliceAt t (.slice ad n c) none (some (.int kk (k : Int))) (some (.int km (m : Int)))).run P w = .ok (.slice ad k m) w := by
    rw [run_sliceAt_slice (P := P) (w := w) t _ _ _ _ (by rw [he]; exact ht), run_slice_hm (P := P) (w := w) t ad n c (by rw [he]; exact ht) kk km k m (by omega) (by omega) (by omega)]
    simp [sizeOf, typeInfo, he, hi', sliced, addr_add_zero, Result.andThen]
  unfold Oper.wp
  simp [execOp, ho, hx, hk, hm, hrun, Result.andThen]
  exact h

/-- append of what reads as a row to an own row, at the operation -/
theorem wp_append_rd {P : Program} {w w0 : World} {S : Nat → Prop} {o : Oper} {a : Act} {K : Act → World → Prop} {Q : Exit → Act → World → Prop} (s x : Operand) (t : TypeId)
    (ho : o.op = .call { callee := .builtin .append, args := #[s, x], argTypes := #[t, t] })
    (e : TypeId) (i : TypeInfo) (z : Value) (size bytes : Nat) (ht : P.underlying t = some (.slice e)) (hi : P.info? e = some i) (hz : i.zero = some z)
    (hsize : i.size = size) (hby : i.bytes = bytes) (hzs : z.cells.size = size) (hsz : 0 < size)
    (v : Value) (n : Nat) (xs : List Value) (hs : a.eval s = v) (hown : w.ownsRow w0.heap.size e size v n xs) (hfr : Fr S w0 w)
    (u : Value) (m : Nat) (news : List Value) (hx : a.eval x = u) (hrd : Rd w size u m news) (h1 : ∀ u ∈ news, u.oneCell' = true)
    (h63 : n + m ≤ maxLen) (hbytes : (n + m) * bytes ≤ 140737488355328)
    (h : ∀ v' w', w'.ownsRow w0.heap.size e size v' (n + m) (xs ++ news) → Fr S w0 w' → Fr (fun b => some b = v.ownBlock) w w' → K (a.put o.dst v') w') : o.wp P a w K Q := by
  obtain ⟨ad, c, rfl, hmc, hl, hnone, hcells⟩ := hrd
  cases ad with
  | none =>
    have hc := hnone rfl
    have hm : m = 0 := by omega
    subst hc hm
    have hnews : news = [] := List.eq_nil_of_length_eq_zero (by simpa using hl)
    subst hnews
    have hrun := run_append_owned_none (P := P) (w := w) w0.heap.size t o.type e i size ht hi v n xs hown
    unfold Oper.wp
    simp [execOp, ho, resolve, invoke, builtin, hs, hx, hrun, Result.andThen]
    exact h v w (by simpa using hown) hfr (Fr.refl _ _)
  | some ad =>
    exact wp_append_own w s x t ho w0.heap.size e i z size bytes ht hi hz hsize hby hzs hsz v n xs hs hown ad m c news hx hl
      (fun j u hu => by obtain ⟨ad', he, hc⟩ := hcells j u hu; cases he; exact hc) h1 h63 hbytes hfr.size
      (fun v' w' h2 h3 _ => h v' w' h2 (hfr.grown h3 hown) (Fr.grownBy h3))

/-- nothing is appended -/
theorem run_append_zero {P : Program} (w : World) (t ty e : TypeId) (i : TypeInfo) (ht : P.underlying t = some (.slice e)) (hi : P.info? e = some i) (a b : Option Addr) (n c c' : Nat) (hn : n ≤ c) :
    (Builtin.append_ #[t, t] ty #[.slice a n c, .slice b 0 c']).run P w = .ok (.slice a n c) w := by
  cases a <;> cases b <;> simp [Builtin.append_, run_underlying ht, sizeOf, typeInfo, hi, Builtin.lenOf, Builtin.firstCells, storeCells, hn, loadCells, loadCellsFrom]

/-- append onto a full slice: the old one, or a new row -/
theorem run_append_full {P : Program} (w : World) (t ty e : TypeId) (i : TypeInfo) (z : Value) (size bytes : Nat) (ht : P.underlying t = some (.slice e)) (hi : P.info? e = some i) (hz : i.zero = some z)
    (hsize : i.size = size) (hby : i.bytes = bytes) (hzs : z.cells.size = size) (hsz : 0 < size)
    (a : Option Addr) (n : Nat) (xs : List Value) (hd : Rd w size (.slice a n n) n xs) (u : Value) (m : Nat) (news : List Value) (hrd : Rd w size u m news) (h63 : n + m ≤ maxLen) (hbytes : (n + m) * bytes ≤ 140737488355328) :
    ∃ v' w', (Builtin.append_ #[t, t] ty #[.slice a n n, u]).run P w = .ok v' w' ∧ Rd w' size v' (n + m) (xs ++ news) ∧ Fr (fun _ => False) w w' := by
  subst hsize hby
  obtain ⟨b, c, rfl, hmc, hl, hnone, hcells⟩ := hrd
  have hd' := hd
  obtain ⟨a', c', hv, _, hl', hn', hx⟩ := hd
  simp only [Value.slice.injEq] at hv
  obtain ⟨rfl, _, rfl⟩ := hv
  have h47 : n + m ≤ 9223372036854775807 := by simp only [maxLen] at h63; omega
  by_cases hm : m = 0
  · subst hm
    have hnews : news = [] := List.eq_nil_of_length_eq_zero (by simpa using hl)
    subst hnews
    exact ⟨_, w, run_append_zero w t ty e i ht hi a b n n c (Nat.le_refl _), by simpa using hd', Fr.refl _ _⟩
  · cases b with
    | none => have := hnone rfl; omega
    | some b =>
      have hnews : ∀ j v, news[j]? = some v → w.cell? (b.add j) = some v := fun j v hj => by obtain ⟨ad, he, hc⟩ := hcells j v hj; cases he; exact hc
      cases a with
      | none =>
        have h0 := hn' rfl
        subst h0
        have hxs : xs = [] := List.eq_nil_of_length_eq_zero (by simpa using hl')
        subst hxs
        have hr := run_append_nil (P := P) w t ty e i z ht hi hz b m c news hl hnews (by omega) (by omega) (by have hb := hbytes; simp only [Nat.zero_add] at hb; omega)
        have hge := grownCap_ge w m 0 e
        refine ⟨_, _, hr, ⟨some ⟨w.heap.size, 0, none⟩, grownCap w m 0 e, by rw [Nat.zero_add], by simpa using hge, by simpa using hl, (fun e => by cases e), fun j v hj => ⟨_, rfl, ?_⟩⟩, ⟨rfl, rfl, rfl, by simp, fun k hk _ => Below.heap_alloc _ _ k hk⟩⟩
        have hadd : (⟨w.heap.size, 0, none⟩ : Addr).add j = ⟨w.heap.size, j, none⟩ := by unfold Addr.add; split <;> simp_all
        rw [hadd, cell_blk (w := w.drew.alloc _) (b := w.heap.size) (by rw [heap_alloc]; exact if_pos rfl)]
        simp only [List.nil_append] at hj
        rw [Array.getElem?_append_left (by have := (List.getElem?_eq_some_iff.1 hj).1; simpa using this)]
        simpa using hj
      | some a =>
        have holds : ∀ j v, xs[j]? = some v → w.cell? (a.add j) = some v := fun j v hj => by obtain ⟨ad, he, hc⟩ := hx j v hj; cases he; exact hc
        have hr := run_append_grow (P := P) w t ty e i z ht hi hz a n n xs hl' holds b m c news hl hnews (by omega) (by omega) (growslice_fits (by omega) hbytes)
        have hge := grownCap_ge w (n + m) n e
        refine ⟨_, _, hr, ⟨_, _, rfl, hge, by rw [List.length_append, hl, hl', Nat.add_mul], (fun e => by cases e), fun j v hj => ⟨_, rfl, ?_⟩⟩, ⟨rfl, rfl, rfl, by simp, fun k hk _ => Below.heap_alloc _ _ k hk⟩⟩
        have hadd : (⟨w.heap.size, 0, none⟩ : Addr).add j = ⟨w.heap.size, j, none⟩ := by unfold Addr.add; split <;> simp_all
        rw [hadd, cell_blk (w := w.drew.alloc _) (b := w.heap.size) (by rw [heap_alloc]; exact if_pos rfl)]
        rw [Array.getElem?_append_left (by have := (List.getElem?_eq_some_iff.1 hj).1; simpa using this)]
        simpa using hj

theorem wp_append_full {P : Program} {w : World} {o : Oper} {act : Act} {K : Act → World → Prop} {Q : Exit → Act → World → Prop} (s x : Operand) (t : TypeId)
    (ho : o.op = .call { callee := .builtin .append, args := #[s, x], argTypes := #[t, t] })
    (e : TypeId) (i : TypeInfo) (z : Value) (size bytes : Nat) (ht : P.underlying t = some (.slice e)) (hi : P.info? e = some i) (hz : i.zero = some z)
    (hsize : i.size = size) (hby : i.bytes = bytes) (hzs : z.cells.size = size) (hsz : 0 < size)
    (a : Option Addr) (n : Nat) (xs : List Value) (hs : act.eval s = .slice a n n) (hd : Rd w size (.slice a n n) n xs) (u : Value) (m : Nat) (news : List Value) (hx : act.eval x = u) (hrd : Rd w size u m news) (h63 : n + m ≤ maxLen) (hbytes : (n + m) * bytes ≤ 140737488355328)
    (h : ∀ a' c' w', Rd w' size (.slice a' (n + m) c') (n + m) (xs ++ news) → Fr (fun _ => False) w w' → K (act.put o.dst (.slice a' (n + m) c')) w') : o.wp P act w K Q := by
  obtain ⟨v', w', hr, h1, h2⟩ := run_append_full (P := P) w t o.type e i z size bytes ht hi hz hsize hby hzs hsz a n xs hd u m news hrd h63 hbytes
  unfold Oper.wp
  simp [execOp, ho, resolve, invoke, builtin, hs, hx, hr, Result.andThen]
  obtain ⟨a', c', rfl, _⟩ := id h1
  exact h a' c' w' h1 h2

theorem wp_append_zero {P : Program} {w : World} {o : Oper} {act : Act} {K : Act → World → Prop} {Q : Exit → Act → World → Prop} (s x : Operand) (t : TypeId)
    (ho : o.op = .call { callee := .builtin .append, args := #[s, x], argTypes := #[t, t] })
    (e : TypeId) (i : TypeInfo) (size : Nat) (ht : P.underlying t = some (.slice e)) (hi : P.info? e = some i)
    (v : Value) (n : Nat) (xs : List Value) (hs : act.eval s = v) (hd : Rd w size v n xs) (b : Option Addr) (c' : Nat) (hx : act.eval x = .slice b 0 c')
    (h : K (act.put o.dst v) w) : o.wp P act w K Q := by
  obtain ⟨a, c, rfl, hn, _⟩ := hd
  have hr := run_append_zero (P := P) w t o.type e i ht hi a b n c c' hn
  unfold Oper.wp
  simp [execOp, ho, resolve, invoke, builtin, hs, hx, hr, Result.andThen]
  exact h

/-- a list that is two lists in two ways -/
theorem mid_cases {α : Type} {xs ys xs' ys' : List α} {n r : α} (h : xs ++ n :: ys = xs' ++ r :: ys') :
    (∃ zs, ys = zs ++ r :: ys' ∧ xs' = xs ++ n :: zs) ∨ (xs' = xs ∧ r = n ∧ ys' = ys) ∨ (∃ bs, xs = xs' ++ r :: bs ∧ ys' = bs ++ n :: ys) := by
  rcases List.append_eq_append_iff.1 h with ⟨zs, h1, h2⟩ | ⟨bs, h1, h2⟩
  · cases zs with
    | nil => simp at h1 h2; exact .inr (.inl ⟨h1, h2.1.symm, h2.2.symm⟩)
    | cons a zs => simp at h2; obtain ⟨rfl, h2⟩ := h2; exact .inl ⟨zs, h2, h1⟩
  · cases bs with
    | nil => simp at h1 h2; exact .inr (.inl ⟨h1.symm, h2.1, h2.2⟩)
    | cons b bs => simp at h2; obtain ⟨rfl, h2⟩ := h2; exact .inr (.inr ⟨bs, h1, h2⟩)
end Go.Proofs.YteicdpgmclbgjaaGreatDoor

/-
  strings.Builder: what WriteString does; the texts of the shelf, over a dump whose copy check ends in a refusal. No condition.
-/
namespace Go.Proofs.YteicdpgmclbgjaaGreatDoor
open Go.RowKit Go.Deep Go.Shelf

theorem infoByte' : (Tryz.prog.info? 5).map (fun i => (i.zero, i.size, i.bytes)) = some (some (.int .u8 0), 1, 1) := by kernel_rfl
theorem sizeBld : (Tryz.prog.info? 43).map (·.size) = some 2 := by kernel_rfl
theorem liesBld : liesAt Tryz.prog Tryz.prog.depth 43 (2 / Tryz.prog.cellsOf 43) 0 43 1 = true := by kernel_rfl

set_option maxHeartbeats 1000000 in
set_option maxRecDepth 100000 in
theorem copyCheck_used (b : Nat) (w : World) (h0 : w.cell? ⟨b, 0, none⟩ = some (.pointer (some ⟨b, 0, none⟩))) :
    Calls Tryz.prog 57 #[.pointer (some ⟨b, 0, none⟩)] w fun e w' => e = .returned (.tuple #[]) ∧ w' = w := by
  obtain ⟨j, hj, _⟩ := Option.map_eq_some_iff.1 sizeBld
  go_enter Tryz.func57, Tryz.ntmps57
  go_wp2
  rw [Lib.run_neq_ptr_same w _ Tryz.underlying41 hj]
  go_wp2
  go_end0
  exact ⟨rfl, rfl⟩

set_option maxHeartbeats 1000000 in
set_option maxRecDepth 100000 in
theorem copyCheck_fresh (b : Nat) (w : World) (h0 : w.cell? ⟨b, 0, none⟩ = some (.pointer none)) (hsh : w.shape? b = some (43, 2)) (hfz : w.frozen? ⟨b, 0, none⟩ = false) :
    Calls Tryz.prog 57 #[.pointer (some ⟨b, 0, none⟩)] w fun e w' => e = .returned (.tuple #[]) ∧ w' = w.setCell ⟨b, 0, none⟩ (.pointer (some ⟨b, 0, none⟩)) := by
  obtain ⟨j, hj, hjs⟩ := Option.map_eq_some_iff.1 sizeBld
  go_enter Tryz.func57, Tryz.ntmps57
  go_wp2
  rw [Lib.run_to_unsafe w ⟨b, 0, none⟩ Tryz.underlying41 Tryz.underlying132 hj (by rw [hjs]; decide) hsh (Nat.zero_lt_succ 1)]
  simp only [Result.andThen]
  rw [Oper.upon_value]
  go_wp2
  rw [run_callFunc_extern Tryz.func87 (by kernel_rfl) (by kernel_rfl) (by kernel_rfl) (e := Extern.AbiNoEscape.same) (by kernel_rfl)]
  rw [Lib.run_noEscape]
  simp only [Result.andThen]
  rw [Oper.upon_value]
  go_wp2
  rw [Lib.run_from_unsafe w ⟨b, 0, none⟩ Tryz.underlying132 Tryz.underlying41 hj hsh liesBld]
  simp only [Result.andThen]
  rw [Oper.upon_value]
  go_wp2
  go_end0
  exact ⟨rfl, rfl⟩

theorem copyCheck_k (B b : Nat) (bs : List Value) (w : World) (h : Lib.IsBuilderF 43 5 B b bs w) :
    Calls Tryz.prog 57 #[.pointer (some ⟨b, 0, none⟩)] w fun e w' => e = .returned (.tuple #[]) ∧ (Lib.BuilderAtF 43 5 B b (.pointer (some ⟨b, 0, none⟩)) bs w' ∧ Below B w w' ∧ Lib.OthersKept 5 (some b) w w') := by
  rcases h with h | h
  · refine (copyCheck_fresh b w h.cell0 h.shape h.frozen0).mono ?_
    rintro e w' ⟨rfl, rfl⟩
    exact ⟨rfl, h.used _, (Below.refl B w).setCell (p := ⟨b, 0, none⟩) h.1 _, (Lib.OthersKept.refl _ _ w).setCell ⟨b, 0, none⟩ rfl _⟩
  · refine (copyCheck_used b w h.cell0).mono ?_
    rintro e w' ⟨rfl, rfl⟩
    exact ⟨rfl, h, Below.refl B _, Lib.OthersKept.refl _ _ _⟩

set_option maxHeartbeats 2000000 in
set_option maxRecDepth 100000 in
theorem bld_write (B b : Nat) (bs : List Value) (s : ByteArray) (w : World) (h : Lib.IsBuilderF 43 5 B b bs w) (hlen : bs.length + s.size ≤ 140737488355328) (hBw : B ≤ w.heap.size) :
    Calls Tryz.prog 14 #[.pointer (some ⟨b, 0, none⟩), .string s] w fun e w' => e = .returned (.tuple #[.int .i64 s.size, .nilIface]) ∧ (Lib.BuilderAtF 43 5 B b (.pointer (some ⟨b, 0, none⟩)) (bs ++ Lib.strCells s) w' ∧ Below B w w' ∧ Lib.OthersKept 5 (some b) w w') := by
  obtain ⟨i0, hi, hz0, hz1, hz2⟩ := info_parts infoByte'
  go_enter Tryz.func14, Tryz.ntmps14
  go_wp2_with (go_at_call 57; refine (copyCheck_k B b bs _ h).mono ?_)
  rintro e w1 ⟨rfl, h1, hb1, hk1⟩
  obtain ⟨hB, v, hbk, hown, hne⟩ := h1
  have c0 : w1.cell? ⟨b, 0, none⟩ = some (.pointer (some ⟨b, 0, none⟩)) := by rw [Lib.cell_of_heap hbk]; rfl
  have c1 : w1.cell? ⟨b, 1, none⟩ = some v := by rw [Lib.cell_of_heap hbk]; rfl
  go_wp2_with (at_builtin; refine Lib.wpList_append_own_stringF _ rfl _ _ 28 9 rfl B 5 i0 Tryz.underlying28 Tryz.underlying9 hi hz0 hz1 hz2 _ _ _ rfl hown s rfl ?c3 ?c4 ?c5 ?_)
  case c3 => unfold maxLen; omega
  case c4 => omega
  case c5 => have := hb1.size; omega
  intro v' w2 hown' hgrow _
  have hlt : b < w1.heap.size := by
    rcases Nat.lt_or_ge b w1.heap.size with h' | h'
    · exact h'
    · simp [Array.getElem?_eq_none h'] at hbk
  have hb2 : w2.heap[b]? = some (.cells #[.pointer (some ⟨b, 0, none⟩), v] 43 (0, 0)) := by
    rw [hgrow.block b hlt (fun e => hne e.symm)]
    exact hbk
  have d0 : w2.cell? ⟨b, 0, none⟩ = some (.pointer (some ⟨b, 0, none⟩)) := by rw [Lib.cell_of_heap hb2]; rfl
  have d1 : w2.cell? ⟨b, 1, none⟩ = some v := by rw [Lib.cell_of_heap hb2]; rfl
  have f1 : w2.frozen? ⟨b, 1, none⟩ = false := Lib.frozen_of_heap hb2 1
  obtain ⟨ao, n', cap, rfl⟩ : ∃ ao n' cap, v' = .slice ao n' cap := by
    rcases hown'.2 with ⟨hv, _⟩ | ⟨g, cap, cur, fz, hv, _⟩
    · exact ⟨_, _, _, hv⟩
    · exact ⟨_, _, _, hv⟩
  go_wp2
  go_ret2
  refine ⟨rfl, ?_, ?_, (hk1.grown hgrow (Lib.ownsRowF_kind hown)).setCell ⟨b, 1, none⟩ rfl _⟩
  · exact Lib.BuilderAtF.put (T := 43) (e := 5) hB hb2 (bs' := bs ++ Lib.strCells s) (by simpa [Lib.strCells_length] using hown') (by decide)
  · exact (hb1.grown hgrow (by have := hb1.size; omega) (fun k hk => (hown.lt k hk).1)).setCell (p := ⟨b, 1, none⟩) hB _
end Go.Proofs.YteicdpgmclbgjaaGreatDoor

/-
  Rows of one's own: appended to, cut. No program in sight.
-/
namespace Go.Proofs.YteicdpgmclbgjaaGreatDoor
open Go.RowKit

theorem ownsRow_prefix {w : World} {B T sz n c : Nat} {a : Option Addr} {xs : List Value} (h : w.ownsRow B T sz (.slice a n c) n xs) {k : Nat} (hk : k ≤ n) : w.ownsRow B T sz (.slice a k c) k (xs.take (k * sz)) := by
  have hle : k * sz ≤ n * sz := Nat.mul_le_mul_right _ hk
  rcases h with ⟨hl, h | ⟨g, cap, cur, hv, hg, hb, hn, hcm, hcs, ht⟩⟩
  · obtain ⟨hv, rfl⟩ := h
    simp only [Value.slice.injEq] at hv
    obtain ⟨rfl, _, rfl⟩ := hv
    have : k = 0 := by omega
    subst this
    exact ⟨by simp, .inl ⟨rfl, rfl⟩⟩
  · simp only [Value.slice.injEq] at hv
    obtain ⟨rfl, _, rfl⟩ := hv
    refine ⟨by rw [List.length_take]; omega, .inr ⟨g, c, cur, rfl, hg, hb, by omega, hcm, hcs, ?_⟩⟩
    rw [← ht, List.take_take]
    congr 1; omega

/-- what is appended stands behind; the row's block is what it was, or new -/
theorem run_append_row {P : Program} {w : World} (t ty e : TypeId) (i : TypeInfo) (z : Value) (size bytes : Nat) (ht : P.underlying t = some (.slice e)) (hi : P.info? e = some i) (hz : i.zero = some z)
    (hsize : i.size = size) (hby : i.bytes = bytes) (hzs : z.cells.size = size) (hsz : 0 < size)
    (v : Value) (n : Nat) (xs : List Value) (hown : w.ownsRow 0 e size v n xs)
    (u : Value) (m : Nat) (news : List Value) (hrd : Rd w size u m news) (h1 : ∀ u ∈ news, u.oneCell' = true)
    (h63 : n + m ≤ maxLen) (hbytes : (n + m) * bytes ≤ 140737488355328) :
    ∃ v' w', (Builtin.append_ #[t, t] ty #[v, u]).run P w = .ok v' w' ∧ w'.ownsRow 0 e size v' (n + m) (xs ++ news) ∧ Fr (fun b => some b = v.ownBlock) w w' ∧
      ∀ g, v'.ownBlock = some g → v.ownBlock = some g ∨ w.heap.size ≤ g := by
  obtain ⟨ad, c, rfl, hmc, hl, hnone, hcells⟩ := hrd
  cases ad with
  | none =>
    have hc := hnone rfl
    have hm : m = 0 := by omega
    subst hc hm
    have hnews : news = [] := List.eq_nil_of_length_eq_zero (by simpa using hl)
    subst hnews
    exact ⟨v, w, run_append_owned_none (P := P) (w := w) 0 t ty e i size ht hi v n xs hown, by simpa using hown, Fr.refl _ _, fun g hg => .inl hg⟩
  | some ad =>
    have hnews : ∀ (j : Nat) (u : Value), news[j]? = some u → w.cell? (ad.add j) = some u := fun j u hu => by obtain ⟨ad', he, hc⟩ := hcells j u hu; cases he; exact hc
    obtain ⟨v', w', hr, h2, h3, h4⟩ := run_append_own (P := P) w 0 t ty e i z size bytes ht hi hz hsize hby hzs hsz v n xs hown ad m c news hl hnews h1 h63 hbytes (Nat.zero_le _)
    refine ⟨v', w', hr, h2, Fr.grownBy h3, fun g hg => ?_⟩
    have hml : n + m ≤ 9223372036854775807 := by simp only [maxLen] at h63; omega
    subst hsize hby
    rcases hown with ⟨hxl, hn | ⟨g0, cap, cur, rfl, _, hb, hnc, hcm, hcs, htk⟩⟩
    · obtain ⟨rfl, rfl⟩ := hn
      by_cases hm : m = 0
      · have := h4.2 ⟨rfl, hm⟩
        rw [this] at hg; simp [Value.ownBlock] at hg
      · have hr' := run_append_nil (P := P) w t ty e i z ht hi hz ad m c news hl hnews (by omega) (by omega) (by simp only [Nat.zero_add] at hbytes; omega)
        rw [hr'] at hr
        simp only [Result.ok.injEq] at hr
        rw [← hr.1] at hg
        simp only [Value.ownBlock, Option.some.injEq] at hg
        exact .inr (by omega)
    · by_cases hroom : n + m ≤ cap
      · have hr' := run_append_room (P := P) w t ty e i ht hi g0 n cap cur hb ad m c news hl hnews h1 hroom (by rw [hl, hcs, ← Nat.add_mul]; exact Nat.mul_le_mul_right _ hroom)
        rw [hr'] at hr
        simp only [Result.ok.injEq] at hr
        rw [← hr.1] at hg
        exact .inl hg
      · have holds : ∀ (j : Nat) (u : Value), xs[j]? = some u → w.cell? ((⟨g0, 0, none⟩ : Addr).add j) = some u :=
          World.ownsRow.cells (base := 0) (e := e) (size := i.size) (v := .slice (some ⟨g0, 0, none⟩) n cap) (n := n) ⟨hxl, .inr ⟨g0, cap, cur, rfl, Nat.zero_le _, hb, hnc, hcm, hcs, htk⟩⟩ rfl
        have hr' := run_append_grow (P := P) w t ty e i z ht hi hz ⟨g0, 0, none⟩ n cap xs hxl holds ad m c news hl hnews (by omega) (by omega) (growslice_fits (by omega) hbytes)
        rw [hr'] at hr
        simp only [Result.ok.injEq] at hr
        rw [← hr.1] at hg
        simp only [Value.ownBlock, Option.some.injEq] at hg
        exact .inr (by omega)

/-- x[k:], as it runs -/
theorem run_from {P : Program} (t e : TypeId) (i : TypeInfo) (ht : P.underlying t = some (.slice e)) (hi' : P.info? e = some i) (sz : Nat) (hsz : i.size = sz) (ad : Option Addr) (n c : Nat) (kk : IntKind) (k : Nat) (hkn : k ≤ n) (_ : n ≤ c) :
    ∀ w : World, (Instr.slice t (.slice ad n c) (some (.int kk (k : Int))) none none).run P w = .ok (sliced ad k n c sz) w := by
  intro w
  have he : P.elem t = e := by simp [Program.elem, ht]
  rw [run_slice_l (P := P) (w := w) t ad n c (by rw [he]; exact ht) kk k (by omega) (by omega)]
  simp [sizeOf, typeInfo, he, hi', hsz, Result.andThen]

theorem wp_append_row {P : Program} {w : World} {o : Oper} {a : Act} {K : Act → World → Prop} {Q : Exit → Act → World → Prop} (s x : Operand) (t : TypeId)
    (ho : o.op = .call { callee := .builtin .append, args := #[s, x], argTypes := #[t, t] })
    {v u v' : Value} {w' : World} (hs : a.eval s = v) (hx : a.eval x = u) (hr' : (Builtin.append_ #[t, t] o.type #[v, u]).run P w = .ok v' w') (h : K (a.put o.dst v') w') : o.wp P a w K Q := by
  unfold Oper.wp
  simp only [execOp, ho, resolve, invoke, builtin, hs, hx, List.map_toArray, List.map_cons, List.map_nil, Sem.run_bind, hr', Result.andThen, Sem.run_pure, Oper.upon]
  exact h

theorem wp_append_rows {P : Program} {w : World} {o : Oper} {a : Act} {K : Act → World → Prop} {Q : Exit → Act → World → Prop} (s x : Operand) (t : TypeId)
    (ho : o.op = .call { callee := .builtin .append, args := #[s, x], argTypes := #[t, t] })
    (e : TypeId) (i : TypeInfo) (z : Value) (size bytes : Nat) (ht : P.underlying t = some (.slice e)) (hi : P.info? e = some i) (hz : i.zero = some z)
    (hsize : i.size = size) (hby : i.bytes = bytes) (hzs : z.cells.size = size) (hsz : 0 < size)
    (v : Value) (n : Nat) (xs : List Value) (hs : a.eval s = v) (hown : w.ownsRow 0 e size v n xs)
    (u : Value) (m : Nat) (news : List Value) (hx : a.eval x = u) (hrd : Rd w size u m news) (h1 : ∀ u ∈ news, u.oneCell' = true)
    (h63 : n + m ≤ maxLen) (hbytes : (n + m) * bytes ≤ 140737488355328)
    (h : ∀ v' w', w'.ownsRow 0 e size v' (n + m) (xs ++ news) → Fr (fun b => some b = v.ownBlock) w w' → (∀ g, v'.ownBlock = some g → v.ownBlock = some g ∨ w.heap.size ≤ g) → K (a.put o.dst v') w') : o.wp P a w K Q := by
  obtain ⟨v', w', hr, h2, h3, h4⟩ := run_append_row (P := P) (w := w) t o.type e i z size bytes ht hi hz hsize hby hzs hsz v n xs hown u m news hrd h1 h63 hbytes
  exact wp_append_row s x t ho hs hx hr (h v' w' h2 h3 h4)

theorem ownsRow_cap {w : World} {B T sz n c m : Nat} {a : Option Addr} {xs : List Value} (h : w.ownsRow B T sz (.slice a m c) n xs) : n ≤ c := by
  rcases h.2 with ⟨h1, h2⟩ | ⟨g, cap, cur, hv, _, _, h2, _⟩
  · omega
  · simp only [Value.slice.injEq] at hv; omega
end Go.Proofs.YteicdpgmclbgjaaGreatDoor

/-
  Rows of so many cells each, rows of one type of blocks. No program in sight.
-/
namespace Go.Proofs.YteicdpgmclbgjaaGreatDoor
open Go.RowKit Go.Deep

theorem add_plain' (b o k : Nat) : (⟨b, o, none⟩ : Addr).add k = ⟨b, o + k, none⟩ := by unfold Addr.add; split <;> simp_all

theorem heap_drew (w : World) : w.drew.heap = w.heap := rfl

theorem heap_at {w : World} {o : Obj} {k : Nat} (h : k = w.heap.size) : (w.alloc o).heap[k]? = some o := by rw [heap_alloc, if_pos h]
theorem heap_old {w : World} {o x : Obj} {k : Nat} (h : w.heap[k]? = some x) : (w.alloc o).heap[k]? = some x := by rw [heap_alloc_ne (lt_blk h)]; exact h

/-- rows of k cells each -/
theorem flat_get {α : Type} {f : α → List Value} {k : Nat} (hk : ∀ x, (f x).length = k) {L : List α} {i : Nat} {x : α} (h : L[i]? = some x) {j : Nat} (hj : j < k) : (L.flatMap f)[i * k + j]? = (f x)[j]? := by
  induction L generalizing i with
  | nil => simp at h
  | cons y L ih =>
    cases i with
    | zero =>
      simp only [List.getElem?_cons_zero, Option.some.injEq] at h
      subst h
      rw [List.flatMap_cons, Nat.zero_mul, Nat.zero_add, List.getElem?_append_left (by rw [hk]; exact hj)]
    | succ i =>
      rw [List.flatMap_cons, List.getElem?_append_right (by rw [hk, Nat.add_mul]; omega), hk]
      have e : (i + 1) * k + j - k = i * k + j := by rw [Nat.add_mul]; omega
      rw [e]
      exact ih (by simpa using h)
theorem flat_len {α : Type} {f : α → List Value} {k : Nat} (hk : ∀ x, (f x).length = k) (L : List α) : (L.flatMap f).length = L.length * k := by
  induction L with
  | nil => simp
  | cons y L ih => rw [List.flatMap_cons, List.length_append, ih, hk, List.length_cons, Nat.add_mul]; omega
theorem flat_take {α : Type} {f : α → List Value} {k : Nat} (hk : ∀ x, (f x).length = k) (L : List α) (n : Nat) (hn : n ≤ L.length) : (L.flatMap f).take (n * k) = (L.take n).flatMap f := by
  have e : L.flatMap f = (L.take n).flatMap f ++ (L.drop n).flatMap f := by rw [← List.flatMap_append, List.take_append_drop]
  rw [e, List.take_append_of_le_length (by rw [flat_len hk, List.length_take, Nat.min_eq_left hn]; exact Nat.le_refl _), List.take_of_length_le (by rw [flat_len hk, List.length_take, Nat.min_eq_left hn]; exact Nat.le_refl _)]
theorem flat_drop {α : Type} {f : α → List Value} {k : Nat} (hk : ∀ x, (f x).length = k) (L : List α) (n : Nat) (hn : n ≤ L.length) : (L.flatMap f).drop (n * k) = (L.drop n).flatMap f := by
  have e : L.flatMap f = (L.take n).flatMap f ++ (L.drop n).flatMap f := by rw [← List.flatMap_append, List.take_append_drop]
  have h : ((L.take n).flatMap f).length = n * k := by rw [flat_len hk, List.length_take, Nat.min_eq_left hn]
  rw [e, ← h, List.drop_left]

/-- the i-th of a row of k cells each -/
theorem rd_rows {α : Type} {f : α → List Value} {k : Nat} (hk : ∀ x, (f x).length = k) (h0 : 0 < k) {w : World} {a : Option Addr} {n c : Nat} {L : List α} (h : Rd w k (.slice a n c) n (L.flatMap f)) {i : Nat} {x : α} (hi : L[i]? = some x) :
    ∃ b o, a = some ⟨b, o, none⟩ ∧ ∀ j u, (f x)[j]? = some u → w.cell? ⟨b, o + i * k + j, none⟩ = some u := by
  obtain ⟨a', c', hv, _, _, _, hx⟩ := h
  simp only [Value.slice.injEq] at hv
  obtain ⟨rfl, _, rfl⟩ := hv
  have hpos : ∃ y, (f x)[0]? = some y := ⟨_, List.getElem?_eq_getElem (by rw [hk]; exact h0)⟩
  obtain ⟨y, hy⟩ := hpos
  obtain ⟨ad, rfl, hc⟩ := hx (i * k + 0) y (by rw [flat_get hk hi h0]; exact hy)
  obtain ⟨b, o, spot⟩ := ad
  have hspot : spot = none := by
    have hL : 0 < L.length := by have := (List.getElem?_eq_some_iff.1 hi).1; omega
    obtain ⟨z, hz⟩ : ∃ z, L[0]? = some z := ⟨_, List.getElem?_eq_getElem hL⟩
    obtain ⟨u0, hu0⟩ : ∃ u0, (f z)[0]? = some u0 := ⟨_, List.getElem?_eq_getElem (by rw [hk]; exact h0)⟩
    obtain ⟨ad', he, hc0⟩ := hx 0 u0 (by have := flat_get hk hz h0; rw [Nat.zero_mul, Nat.zero_add] at this; rw [this]; exact hu0)
    simp only [Option.some.injEq] at he
    subst he
    have := World.cell?_spot hc0
    simpa [Addr.add] using this
  subst hspot
  refine ⟨b, o, rfl, fun j u hu => ?_⟩
  have hj : j < k := by have := (List.getElem?_eq_some_iff.1 hu).1; rw [hk] at this; exact this
  obtain ⟨ad', he, hc1⟩ := hx (i * k + j) u (by rw [flat_get hk hi hj]; exact hu)
  simp only [Option.some.injEq] at he
  subst he
  have hadd : (⟨b, o, none⟩ : Addr).add (i * k + j) = ⟨b, o + i * k + j, none⟩ := by unfold Addr.add; split <;> simp_all <;> omega
  rw [hadd] at hc1; exact hc1

theorem owns_keep {S : Nat → Prop} {w w' : World} {T sz n : Nat} {v : Value} {xs : List Value} (h : w.ownsRow 0 T sz v n xs) (hf : Fr S w w') (hS : ∀ g, v.ownBlock = some g → ¬ S g) : w'.ownsRow 0 T sz v n xs := by
  refine ⟨h.1, ?_⟩
  rcases h.2 with h2 | ⟨g, cap, cur, hv, hg, hh, r⟩
  · exact .inl h2
  · exact .inr ⟨g, cap, cur, hv, hg, hf.at hh (hS g (by rw [hv]; rfl)), r⟩

theorem owns_lt {w : World} {T sz n : Nat} {v : Value} {xs : List Value} (h : w.ownsRow 0 T sz v n xs) {g : Nat} (hg : v.ownBlock = some g) : g < w.heap.size := by
  rcases h.2 with ⟨rfl, _⟩ | ⟨g', cap, cur, rfl, _, hh, _⟩
  · simp [Value.ownBlock] at hg
  · simp only [Value.ownBlock, Option.some.injEq] at hg
    subst hg; exact lt_blk hh


/-- a slice that reads as xs; its block is a row of type E -/
def RowT (E sz : Nat) (w : World) (v : Value) (n : Nat) (xs : List Value) : Prop :=
  Rd w sz v n xs ∧ ∀ ad n' c', v = .slice (some ad) n' c' → ∃ c, w.heap[ad.block]? = some (.cells c E (0, 0))

/-- no block of S is a row of type E -/
def NotE (E : Nat) (w : World) (S : Nat → Prop) : Prop := ∀ b, S b → ∀ c, w.heap[b]? ≠ some (.cells c E (0, 0))

theorem NotE.none (E : Nat) (w : World) : NotE E w (fun _ => False) := fun _ h => h.elim
theorem NotE.one {E : Nat} {w : World} {b : Nat} {c : Array Value} {t : TypeId} {f : Nat × Nat} (h : w.heap[b]? = some (.cells c t f)) (ht : t ≠ E) : NotE E w (fun x => x = b) := by
  rintro x rfl c' h'
  rw [h] at h'
  simp only [Option.some.injEq, Obj.cells.injEq] at h'
  exact ht h'.2.1
theorem NotE.map {E : Nat} {w : World} {b : Nat} {es : Array MapEntry} {k : Nat} (h : w.heap[b]? = some (.map es k)) : NotE E w (fun x => x = b) := by
  rintro x rfl c' h'
  rw [h] at h'; cases h'

theorem RowT.fr {S : Nat → Prop} {E sz n : Nat} {w w' : World} {v : Value} {xs : List Value} (h : RowT E sz w v n xs) (hf : Fr S w w') (hS : NotE E w S) : RowT E sz w' v n xs := by
  refine ⟨h.1.fr hf (fun a ⟨c, hv⟩ hs => ?_), fun ad n' c' hv => ?_⟩
  · obtain ⟨c', hc⟩ := h.2 a n c hv
    exact hS _ hs _ hc
  · obtain ⟨c, hc⟩ := h.2 ad n' c' hv
    exact ⟨c, hf.at hc (fun hs => hS _ hs _ hc)⟩
theorem RowT.quiet {E sz n : Nat} {w w' : World} {v : Value} {xs : List Value} (h : RowT E sz w v n xs) (hf : Fr (fun _ => False) w w') : RowT E sz w' v n xs := h.fr hf (NotE.none _ _)

theorem ownsRow_T {w : World} {B E sz n : Nat} {v : Value} {xs : List Value} (h : w.ownsRow B E sz v n xs) : RowT E sz w v n xs := by
  refine ⟨ownsRow_rd h, fun ad n' c' hv => ?_⟩
  rcases h.2 with ⟨rfl, _⟩ | ⟨g, cap, cur, rfl, _, hh, _⟩
  · cases hv
  · simp only [Value.slice.injEq, Option.some.injEq] at hv
    rw [← hv.1]; exact ⟨_, hh⟩

theorem RowT.nil (E sz : Nat) (w : World) : RowT E sz w (.slice none 0 0) 0 [] :=
  ⟨⟨none, 0, rfl, Nat.le_refl _, by simp, fun _ => rfl, by simp⟩, fun _ _ _ h => by cases h⟩

theorem RowT.form {E sz n : Nat} {w : World} {v : Value} {xs : List Value} (h : RowT E sz w v n xs) : ∃ a c, v = .slice a n c ∧ n ≤ c := by
  obtain ⟨a, c, hv, hn, _⟩ := h.1
  exact ⟨a, c, hv, hn⟩

theorem Fr.no {S : Nat → Prop} {w w' : World} (h : Fr (fun _ => False) w w') : Fr S w w' := h.mono (fun _ _ x => x.elim)
theorem Fr.same_ {S : Nat → Prop} {u v w : World} (h : Fr S u v) (k : Fr S v w) : Fr S u w := h.trans k (fun _ _ x => x)
end Go.Proofs.YteicdpgmclbgjaaGreatDoor

/-
  Memory as a list of blocks that are apart, in groups: what a call needs, and all the rest as it was. No program in sight.
-/
namespace Go.Proofs.YteicdpgmclbgjaaGreatDoor
open Go.RowKit Go.Deep

abbrev Blk := Nat × Obj
abbrev Grp := List Blk

/-- these blocks, each apart from the others, hold this -/
structure Hp (I w : World) (Gs : List Grp) : Prop where
  io : w.os = I.os ∧ w.tape = I.tape ∧ w.output = I.output
  nd : (Gs.flatten.map Prod.fst).Nodup
  has : ∀ x ∈ Gs.flatten, w.heap[x.1]? = some x.2

variable {I w w' : World} {A B C D E F G H : Grp} {R Gs Hs : List Grp} {b b' : Nat} {o o' : Obj}

theorem Hp.perm (h : Hp I w Gs) (p : Gs.flatten.Perm Hs.flatten) : Hp I w Hs :=
  ⟨h.io, (p.map Prod.fst).nodup_iff.1 h.nd, fun x hx => h.has x (p.mem_iff.2 hx)⟩
theorem Hp.permG (h : Hp I w Gs) (p : Gs.Perm Hs) : Hp I w Hs := h.perm p.flatten

theorem Hp.p2 (h : Hp I w (A :: B :: R)) : Hp I w (B :: A :: R) := h.permG (.swap ..)
theorem Hp.p3 (h : Hp I w (A :: B :: C :: R)) : Hp I w (C :: A :: B :: R) := h.permG (List.perm_middle (l₁ := [A, B]))
theorem Hp.p4 (h : Hp I w (A :: B :: C :: D :: R)) : Hp I w (D :: A :: B :: C :: R) := h.permG (List.perm_middle (l₁ := [A, B, C]))
theorem Hp.p5 (h : Hp I w (A :: B :: C :: D :: E :: R)) : Hp I w (E :: A :: B :: C :: D :: R) := h.permG (List.perm_middle (l₁ := [A, B, C, D]))
theorem Hp.p6 (h : Hp I w (A :: B :: C :: D :: E :: F :: R)) : Hp I w (F :: A :: B :: C :: D :: E :: R) := h.permG (List.perm_middle (l₁ := [A, B, C, D, E]))
theorem Hp.p7 (h : Hp I w (A :: B :: C :: D :: E :: F :: G :: R)) : Hp I w (G :: A :: B :: C :: D :: E :: F :: R) := h.permG (List.perm_middle (l₁ := [A, B, C, D, E, F]))
theorem Hp.p8 (h : Hp I w (A :: B :: C :: D :: E :: F :: G :: H :: R)) : Hp I w (H :: A :: B :: C :: D :: E :: F :: G :: R) := h.permG (List.perm_middle (l₁ := [A, B, C, D, E, F, G]))
theorem Hp.u3 (h : Hp I w (A :: B :: C :: R)) : Hp I w (B :: C :: A :: R) := h.permG (List.perm_middle (l₁ := [B, C])).symm
theorem Hp.u4 (h : Hp I w (A :: B :: C :: D :: R)) : Hp I w (B :: C :: D :: A :: R) := h.permG (List.perm_middle (l₁ := [B, C, D])).symm
theorem Hp.u5 (h : Hp I w (A :: B :: C :: D :: E :: R)) : Hp I w (B :: C :: D :: E :: A :: R) := h.permG (List.perm_middle (l₁ := [B, C, D, E])).symm
theorem Hp.u6 (h : Hp I w (A :: B :: C :: D :: E :: F :: R)) : Hp I w (B :: C :: D :: E :: F :: A :: R) := h.permG (List.perm_middle (l₁ := [B, C, D, E, F])).symm
theorem Hp.u7 (h : Hp I w (A :: B :: C :: D :: E :: F :: G :: R)) : Hp I w (B :: C :: D :: E :: F :: G :: A :: R) := h.permG (List.perm_middle (l₁ := [B, C, D, E, F, G])).symm
theorem Hp.u8 (h : Hp I w (A :: B :: C :: D :: E :: F :: G :: H :: R)) : Hp I w (B :: C :: D :: E :: F :: G :: H :: A :: R) := h.permG (List.perm_middle (l₁ := [B, C, D, E, F, G, H])).symm

theorem Hp.join (h : Hp I w (A :: B :: R)) : Hp I w ((A ++ B) :: R) := h.perm (by simp [List.append_assoc])
theorem Hp.split (h : Hp I w ((A ++ B) :: R)) : Hp I w (A :: B :: R) := h.perm (by simp [List.append_assoc])
theorem Hp.cut {x : Blk} (h : Hp I w ((x :: B) :: R)) : Hp I w ([x] :: B :: R) := h.perm (by simp)
theorem Hp.glue {x : Blk} (h : Hp I w ([x] :: B :: R)) : Hp I w ((x :: B) :: R) := h.perm (by simp)
theorem Hp.nil (h : Hp I w R) : Hp I w ([] :: R) := h.perm (by simp)
theorem Hp.unnil (h : Hp I w ([] :: R)) : Hp I w R := h.perm (by simp)
/-- what is let go -/
theorem Hp.drop (h : Hp I w (A :: R)) : Hp I w R := by
  refine ⟨h.io, ?_, fun x hx => h.has x (by simp only [List.flatten_cons, List.mem_append]; exact .inr hx)⟩
  have := h.nd
  rw [List.flatten_cons, List.map_append] at this
  exact (List.nodup_append.1 this).2.1
theorem Hp.zero (w : World) : Hp w w [] := ⟨⟨rfl, rfl, rfl⟩, by simp, by simp⟩

theorem Hp.blk (h : Hp I w ([(b, o)] :: R)) : w.heap[b]? = some o := h.has (b, o) (by simp)
theorem Hp.mem (h : Hp I w Gs) {b : Nat} {o : Obj} (hG : A ∈ Gs) (hx : (b, o) ∈ A) : w.heap[b]? = some o := h.has (b, o) (List.mem_flatten.2 ⟨A, hG, hx⟩)
theorem Hp.lt (h : Hp I w Gs) {x : Blk} (hx : x ∈ Gs.flatten) : x.1 < w.heap.size := lt_blk (h.has x hx)
theorem Hp.apart (h : Hp I w ([(b, o)] :: R)) : ∀ x ∈ R.flatten, x.1 ≠ b := by
  intro x hx he
  have := h.nd
  rw [List.flatten_cons, List.map_append] at this
  exact (List.nodup_append.1 this).2.2 b (by simp) x.1 (List.mem_map_of_mem hx) he.symm
theorem Hp.ne (h : Hp I w ([(b, o)] :: [(b', o')] :: R)) : b ≠ b' := fun e => h.apart (b', o') (by simp) e.symm
/-- any two blocks of two groups -/
theorem Hp.ne' (h : Hp I w (A :: B :: R)) {x y : Blk} (hx : x ∈ A) (hy : y ∈ B) : x.1 ≠ y.1 := by
  have := h.nd
  rw [List.flatten_cons, List.map_append, List.nodup_append] at this
  exact this.2.2 x.1 (List.mem_map_of_mem hx) y.1 (List.mem_map_of_mem (by simp [hy]))

theorem Hp.fr {S : Nat → Prop} (h : Hp I w Gs) (hf : Fr S w w') (hS : ∀ x ∈ Gs.flatten, ¬ S x.1) : Hp I w' Gs :=
  ⟨⟨hf.os.trans h.io.1, hf.tape.trans h.io.2.1, hf.output.trans h.io.2.2⟩, h.nd, fun x hx => hf.at (h.has x hx) (hS x hx)⟩
theorem Hp.quiet (h : Hp I w Gs) (hf : Fr (fun _ => False) w w') : Hp I w' Gs := h.fr hf (fun _ _ x => x)
theorem Hp.drewN (h : Hp I w Gs) (n : Nat) : Hp I (w.drewN n) Gs := ⟨h.io, h.nd, h.has⟩
theorem Hp.drew (h : Hp I w Gs) : Hp I w.drew Gs := ⟨h.io, h.nd, h.has⟩
/-- one block turns -/
theorem Hp.put (h : Hp I w ([(b, o)] :: R)) (hf : Fr (fun x => x = b) w w') (hb : w'.heap[b]? = some o') : Hp I w' ([(b, o')] :: R) := by
  refine ⟨⟨hf.os.trans h.io.1, hf.tape.trans h.io.2.1, hf.output.trans h.io.2.2⟩, h.nd, fun x hx => ?_⟩
  rw [List.flatten_cons, List.mem_append] at hx
  rcases hx with hx | hx
  · simp only [List.mem_singleton] at hx; subst hx; exact hb
  · exact hf.at (h.has x (by simp only [List.flatten_cons, List.mem_append]; exact .inr hx)) (h.apart x hx)
/-- a block that is new -/
theorem Hp.add {g : Nat} (h : Hp I w R) (hf : Fr (fun _ => False) w w') (hg : w'.heap[g]? = some o) (hn : w.heap.size ≤ g) : Hp I w' ([(g, o)] :: R) := by
  refine ⟨⟨hf.os.trans h.io.1, hf.tape.trans h.io.2.1, hf.output.trans h.io.2.2⟩, ?_, fun x hx => ?_⟩
  · rw [List.flatten_cons, List.map_append]
    show (g :: R.flatten.map Prod.fst).Nodup
    rw [List.nodup_cons]
    refine ⟨fun hm => ?_, h.nd⟩
    obtain ⟨x, hx, he⟩ := List.mem_map.1 hm
    have := h.lt hx
    omega
  · rw [List.flatten_cons, List.mem_append] at hx
    rcases hx with hx | hx
    · simp only [List.mem_singleton] at hx; subst hx; exact hg
    · exact hf.at (h.has x hx) (fun x => x)
theorem Hp.new (h : Hp I w R) (o : Obj) : Hp I (w.alloc o) ([(w.heap.size, o)] :: R) := h.add ((Fr.refl _ w).alloc o) (by rw [heap_alloc, if_pos rfl]) (Nat.le_refl _)
theorem Hp.old (h : Hp I w R) (o : Obj) : Hp I (w.alloc o) R := h.quiet ((Fr.refl _ w).alloc o)
theorem Hp.set {c : Array Value} {t : TypeId} {f : Nat × Nat} (h : Hp I w ([(b, .cells c t f)] :: R)) (i : Nat) (v : Value) : Hp I (w.setCell ⟨b, i, none⟩ v) ([(b, .cells (c.setIfInBounds i v) t f)] :: R) :=
  h.put ((Fr.refl _ w).setCell _ _ (.inl rfl)) (heap_setCell_at h.blk)
/-- a group turns into another one, of its own blocks and new ones -/
theorem Hp.turn (h : Hp I w (A :: R)) (hf : Fr (fun x => x ∈ A.map Prod.fst) w w') (nd : (B.map Prod.fst).Nodup) (hB : ∀ x ∈ B, w'.heap[x.1]? = some x.2 ∧ (x.1 ∈ A.map Prod.fst ∨ w.heap.size ≤ x.1)) : Hp I w' (B :: R) := by
  have h0 := h.nd
  rw [List.flatten_cons, List.map_append, List.nodup_append] at h0
  have hR := h.drop
  refine ⟨⟨hf.os.trans h.io.1, hf.tape.trans h.io.2.1, hf.output.trans h.io.2.2⟩, ?_, fun x hx => ?_⟩
  · rw [List.flatten_cons, List.map_append, List.nodup_append]
    refine ⟨nd, h0.2.1, fun a ha c hc e => ?_⟩
    subst e
    obtain ⟨x, hx, rfl⟩ := List.mem_map.1 ha
    rcases (hB x hx).2 with h1 | h1
    · exact h0.2.2 _ h1 _ hc rfl
    · obtain ⟨y, hy, he⟩ := List.mem_map.1 hc
      have := hR.lt hy
      omega
  · rw [List.flatten_cons, List.mem_append] at hx
    rcases hx with hx | hx
    · exact (hB x hx).1
    · exact hf.at (hR.has x hx) (fun hm => h0.2.2 _ hm _ (List.mem_map_of_mem hx) rfl)
/-- a frame out of it -/
theorem Hp.cell {c : Array Value} {t : TypeId} {f : Nat × Nat} (h : Hp I w ([(b, .cells c t f)] :: R)) (i : Nat) : w.cell? ⟨b, i, none⟩ = c[i]? := cell_blk h.blk i

/-- a row of things of a type, from an own block's first cell on; its block is the group -/
def RowG (E sz : Nat) (v : Value) (n : Nat) (xs : List Value) (G : Grp) : Prop :=
  xs.length = n * sz ∧ ((v = .slice none 0 0 ∧ n = 0 ∧ G = []) ∨ ∃ g cap cur, v = .slice (some ⟨g, 0, none⟩) n cap ∧ G = [(g, .cells cur E (0, 0))] ∧ n ≤ cap ∧ cap ≤ maxLen ∧ cur.size = cap * sz ∧ cur.toList.take (n * sz) = xs)

section
variable {T sz n n' : Nat} {v v' : Value} {xs xs' : List Value}
theorem RowG.form (h : RowG T sz v n xs G) : ∃ a c, v = .slice a n c ∧ n ≤ c := by
  rcases h.2 with ⟨rfl, rfl, _⟩ | ⟨g, cap, cur, rfl, _, hc, _⟩
  · exact ⟨_, _, rfl, Nat.le_refl _⟩
  · exact ⟨_, _, rfl, hc⟩
theorem RowG.nil (T sz : Nat) : RowG T sz (.slice none 0 0) 0 [] [] := ⟨by simp, .inl ⟨rfl, rfl, rfl⟩⟩
theorem RowG.one (h : RowG T sz v n xs G) : v.oneCell' = true := by obtain ⟨a, c, rfl, _⟩ := h.form; rfl
theorem Hp.row (h : Hp I w (G :: R)) (r : RowG T sz v n xs G) : w.ownsRow 0 T sz v n xs := by
  refine ⟨r.1, ?_⟩
  rcases r.2 with ⟨rfl, rfl, _⟩ | ⟨g, cap, cur, rfl, rfl, h1, h2, h3, h4⟩
  · exact .inl ⟨rfl, rfl⟩
  · exact .inr ⟨g, cap, cur, rfl, Nat.zero_le _, h.blk, h1, h2, h3, h4⟩
theorem Hp.rd (h : Hp I w (G :: R)) (r : RowG T sz v n xs G) : Rd w sz v n xs := ownsRow_rd (h.row r)
theorem Hp.rowT (h : Hp I w (G :: R)) (r : RowG T sz v n xs G) : RowT T sz w v n xs := ownsRow_T (h.row r)
theorem RowG.of {B : Nat} (h : w.ownsRow B T sz v n xs) : ∃ G, RowG T sz v n xs G ∧ (∀ x ∈ G, w.heap[x.1]? = some x.2 ∧ v.ownBlock = some x.1 ∧ B ≤ x.1) ∧ (G.map Prod.fst).Nodup := by
  rcases h with ⟨hl, ⟨rfl, rfl⟩ | ⟨g, cap, cur, rfl, hg, hh, h1, h2, h3, h4⟩⟩
  · exact ⟨[], ⟨hl, .inl ⟨rfl, rfl, rfl⟩⟩, by simp, by simp⟩
  · refine ⟨[(g, .cells cur T (0, 0))], ⟨hl, .inr ⟨g, cap, cur, rfl, rfl, h1, h2, h3, h4⟩⟩, fun x hx => ?_, by simp⟩
    simp only [List.mem_singleton] at hx
    subst hx
    exact ⟨hh, rfl, hg⟩
theorem RowG.own (r : RowG T sz v n xs G) : ∀ g, v.ownBlock = some g ↔ g ∈ G.map Prod.fst := by
  intro g
  rcases r.2 with ⟨rfl, rfl, rfl⟩ | ⟨g', cap, cur, rfl, rfl, _⟩
  · simp [Value.ownBlock]
  · simp [Value.ownBlock, eq_comm]
/-- a row that was appended to, or made of it -/
theorem Hp.grow (h : Hp I w (G :: R)) (r : RowG T sz v n xs G) (ho : w'.ownsRow 0 T sz v' n' xs') (hf : Fr (fun b => some b = v.ownBlock) w w') (hg : ∀ g, v'.ownBlock = some g → v.ownBlock = some g ∨ w.heap.size ≤ g) :
    ∃ G', RowG T sz v' n' xs' G' ∧ Hp I w' (G' :: R) := by
  obtain ⟨G', r', h1, h2⟩ := RowG.of ho
  refine ⟨G', r', h.turn (hf.mono (fun b _ hb => (r.own b).1 hb.symm)) h2 (fun x hx => ⟨(h1 x hx).1, ?_⟩)⟩
  rcases hg _ (h1 x hx).2.1 with h3 | h3
  · exact .inl ((r.own _).1 h3)
  · exact .inr h3
/-- a row that is new -/
theorem Hp.newRow (h : Hp I w R) (ho : w'.ownsRow w.heap.size T sz v n xs) (hf : Fr (fun _ => False) w w') : ∃ G, RowG T sz v n xs G ∧ Hp I w' (G :: R) := by
  obtain ⟨G, r, h1, h2⟩ := RowG.of ho
  exact ⟨G, r, h.nil.turn (hf.mono (fun _ _ x => x.elim)) h2 (fun x hx => ⟨(h1 x hx).1, .inr (h1 x hx).2.2⟩)⟩
theorem RowG.made {g : Nat} {c : Array Value} (n : Nat) (hc : c.size = n * sz) (hn : n ≤ maxLen) : RowG T sz (.slice (some ⟨g, 0, none⟩) n n) n c.toList [(g, .cells c T (0, 0))] :=
  ⟨by simpa using hc, .inr ⟨g, n, c, rfl, rfl, Nat.le_refl _, hn, hc, by rw [← hc, ← Array.length_toList, List.take_length]⟩⟩
theorem RowG.empty {g : Nat} : RowG T sz (.slice (some ⟨g, 0, none⟩) 0 0) 0 [] [(g, .cells #[] T (0, 0))] :=
  ⟨by simp, .inr ⟨g, 0, #[], rfl, rfl, Nat.le_refl _, by simp [maxLen], by simp, by simp⟩⟩
end

section
variable {P : Program} {op : Oper} {a : Act} {K : Act → World → Prop} {Q : Exit → Act → World → Prop} {ops : Array Oper} {rest : List Oper} {u z v : Value} {S T sz n m bytes : Nat} {xs news : List Value}
theorem wp_app (s x : Operand) (ho : op.op = .call { callee := .builtin .append, args := #[s, x], argTypes := #[S, S] }) (hU : P.underlying S = some (.slice T)) (hI : (P.info? T).map (fun i => (i.zero, i.size, i.bytes)) = some (some z, sz, bytes))
    (hzs : z.cells.size = sz) (h0 : 0 < sz) (hB : bytes ≤ 1024) (hs : a.eval s = v) (hx : a.eval x = u) (h : Hp I w (G :: R)) (r : RowG T sz v n xs G) (hrd : Rd w sz u m news) (h1 : ∀ u ∈ news, u.oneCell' = true) (hn : n + m ≤ 68719476736)
    (hK : ∀ v' w' G', RowG T sz v' (n + m) (xs ++ news) G' → Hp I w' (G' :: R) → Fr (fun b => some b = v.ownBlock) w w' → K (a.put op.dst v') w') : op.wp P a w K Q := by
  obtain ⟨i0, hi, hz0, hz1, hz2⟩ := info_parts hI
  refine wp_append_rows s x S ho T i0 z sz bytes hU hi hz0 hz1 hz2 hzs h0 v n _ hs (h.row r) u m _ hx hrd h1 (by simp only [maxLen]; omega) (Nat.le_trans (Nat.mul_le_mul hn hB) (by decide)) (fun l' w' h2 h3 h4 => ?_)
  obtain ⟨G', r', h'⟩ := h.grow r h2 h3 h4
  exact hK l' w' G' r' h' h3
theorem wpList_app (hgd : op.guard = none) (s x : Operand) (ho : op.op = .call { callee := .builtin .append, args := #[s, x], argTypes := #[S, S] }) (hU : P.underlying S = some (.slice T)) (hI : (P.info? T).map (fun i => (i.zero, i.size, i.bytes)) = some (some z, sz, bytes))
    (hzs : z.cells.size = sz) (h0 : 0 < sz) (hB : bytes ≤ 1024) (hs : a.eval s = v) (hx : a.eval x = u) (h : Hp I w (G :: R)) (r : RowG T sz v n xs G) (hrd : Rd w sz u m news) (h1 : ∀ u ∈ news, u.oneCell' = true) (hn : n + m ≤ 68719476736)
    (hK : ∀ v' w' G', RowG T sz v' (n + m) (xs ++ news) G' → Hp I w' (G' :: R) → Fr (fun b => some b = v.ownBlock) w w' → wpList P ops Q rest (a.put op.dst v') w') : wpList P ops Q (op :: rest) a w :=
  wpList_plain hgd fun _ hk' => wp_app s x ho hU hI hzs h0 hB hs hx h r hrd h1 hn (fun l' w' G' h2 h3 h4 => hk' _ _ (hK l' w' G' h2 h3 h4))
end

/-! Groups by their place in a list. -/
theorem perm_erase {α : Type} {l : List α} {i : Nat} {a : α} (h : l[i]? = some a) : (a :: l.eraseIdx i).Perm l := by
  induction l generalizing i with
  | nil => simp at h
  | cons x l ih =>
    cases i with
    | zero => simp only [List.getElem?_cons_zero, Option.some.injEq] at h; subst h; exact .refl _
    | succ i => exact (List.Perm.swap x a _).trans (.cons x (ih (by simpa using h)))
theorem perm_insert {α : Type} (l : List α) (i : Nat) (a : α) (h : i ≤ l.length) : (l.insertIdx i a).Perm (a :: l) := by
  induction l generalizing i with
  | nil => have : i = 0 := by simpa using h
           subst this; exact .refl _
  | cons x l ih =>
    cases i with
    | zero => exact .refl _
    | succ i => exact (List.Perm.cons x (ih i (by simpa using h))).trans (.swap ..)
theorem Hp.take (h : Hp I w Gs) (i : Nat) (hi : Gs[i]? = some A) : Hp I w (A :: Gs.eraseIdx i) := h.permG (perm_erase hi).symm
theorem Hp.back (h : Hp I w (B :: R)) (i : Nat) (hi : i ≤ R.length) : Hp I w (R.insertIdx i B) := h.permG (perm_insert R i B hi).symm
theorem Hp.size (h : Hp I w ([(b, o)] :: R)) : b < w.heap.size := lt_blk h.blk
end Go.Proofs.YteicdpgmclbgjaaGreatDoor

/-
  strings.Builder as a group of blocks among others. No condition.
-/
namespace Go.Proofs.YteicdpgmclbgjaaGreatDoor
open Go.RowKit Go.Deep Go.Shelf

section
variable {P : Program} {w : World}
/-- text behind bytes: the row is the old one, or new -/
theorem run_append_text (B : Nat) (t u ty e : TypeId) (i : TypeInfo) (ht : P.underlying t = some (.slice e)) (hu : P.underlying u = some .string) (hi : P.info? e = some i) (hz : i.zero = some (.int .u8 0))
    (hsize : i.size = 1) (hby : i.bytes = 1) (v : Value) (n : Nat) (xs : List Value) (hown : w.ownsRowF B e 1 v n xs) (s : ByteArray) (h63 : n + s.size ≤ maxLen) (hbytes : n + s.size ≤ 140737488355328) (hB : B ≤ w.heap.size) :
    ∃ v' w', (Builtin.append_ #[t, u] ty #[v, .string s]).run P w = .ok v' w' ∧ w'.ownsRowF B e 1 v' (n + s.size) (xs ++ Lib.strCells s) ∧ w.grownBy w' v.ownBlock ∧
      ∀ g, v'.ownBlock = some g → v.ownBlock = some g ∨ w.heap.size ≤ g := by
  rcases hown.2 with ⟨rfl, rfl⟩ | ⟨g, cap, cur, fz, rfl, hbg, hg, hfz, hnc, hcm, hcs, htake⟩
  · obtain ⟨v', w', h1, h2, h3, _⟩ := Lib.run_append_own_stringF (P := P) (w := w) w.heap.size t u ty e i ht hu hi hz hsize hby (.slice none 0 0) 0 xs ⟨hown.1, .inl ⟨rfl, rfl⟩⟩ s h63 hbytes (Nat.le_refl _)
    refine ⟨v', w', h1, ⟨h2.1, h2.2.imp id ?_⟩, h3, fun g hg => .inr (h2.lt g hg).1⟩
    rintro ⟨g, cap, cur, fz, e1, e2, r⟩
    exact ⟨g, cap, cur, fz, e1, by omega, r⟩
  · have hsmall : n + s.size ≤ 9223372036854775807 := by simp only [maxLen] at h63; omega
    have hxl : xs.length = n := by simpa using hown.1
    obtain ⟨v', w', h1, h2, h3, _⟩ := Lib.run_append_own_stringF (P := P) (w := w) B t u ty e i ht hu hi hz hsize hby (.slice (some ⟨g, 0, none⟩) n cap) n xs hown s h63 hbytes hB
    refine ⟨v', w', h1, h2, h3, fun k hk => ?_⟩
    by_cases hroom : n + s.size ≤ cap
    · have hcs' : cur.size = cap := by simpa using hcs
      have hr := Lib.run_append_room_stringF (P := P) w t u ty e i ht hu hi hsize g n cap cur fz hg (by simpa using hfz) s hroom (by omega)
      rw [hr] at h1
      simp only [Result.ok.injEq] at h1
      rw [← h1.1] at hk
      exact .inl hk
    · have holds : ∀ j u, xs[j]? = some u → w.cell? ((⟨g, 0, none⟩ : Addr).add j) = some u := hown.cells (g := g) rfl
      have hr := Lib.run_append_grow_string (P := P) w t u ty e i (.int .u8 0) ht hu hi hz ⟨g, 0, none⟩ n cap xs (by rw [hsize]; simpa using hxl) holds s (by omega) (by omega) (by rw [hby]; exact growslice_fits (by omega) (by omega))
      rw [hr] at h1
      simp only [Result.ok.injEq] at h1
      rw [← h1.1] at hk
      simp only [Value.ownBlock, Option.some.injEq] at hk
      exact .inr (by omega)
theorem wpList_append_text {ops : Array Oper} {rest : List Oper} {o : Oper} {a : Act} {Q : Exit → Act → World → Prop} (hgd : o.guard = none) (sl x : Operand) (t u : TypeId)
    (ho : o.op = .call { callee := .builtin .append, args := #[sl, x], argTypes := #[t, u] })
    (B : Nat) (e : TypeId) (i : TypeInfo) (ht : P.underlying t = some (.slice e)) (hu : P.underlying u = some .string) (hi : P.info? e = some i) (hz : i.zero = some (.int .u8 0))
    (hsize : i.size = 1) (hby : i.bytes = 1) (v : Value) (n : Nat) (xs : List Value) (hs : a.eval sl = v) (hown : w.ownsRowF B e 1 v n xs) (s : ByteArray) (hx : a.eval x = .string s)
    (h63 : n + s.size ≤ maxLen) (hbytes : n + s.size ≤ 140737488355328) (hB : B ≤ w.heap.size)
    (h : ∀ v' w', w'.ownsRowF B e 1 v' (n + s.size) (xs ++ Lib.strCells s) → w.grownBy w' v.ownBlock → (∀ g, v'.ownBlock = some g → v.ownBlock = some g ∨ w.heap.size ≤ g) → wpList P ops Q rest (a.put o.dst v') w') : wpList P ops Q (o :: rest) a w := by
  refine wpList_plain hgd fun K hK => ?_
  obtain ⟨v', w', hr, h2, h3, h4⟩ := run_append_text (P := P) (w := w) B t u o.type e i ht hu hi hz hsize hby v n xs hown s h63 hbytes hB
  unfold Oper.wp execOp
  simp only [ho, resolve, invoke, builtin, Sem.run_bind, Sem.run_pure, Result.andThen_ok, List.map_toArray, List.map_cons, List.map_nil, hs, hx, hr]
  exact hK _ _ (h v' w' h2 h3 h4)
end

/-- a row of bytes, its head frozen or not; its block is the group -/
def RowF (B : Nat) (v : Value) (bs : List Value) (G : Grp) : Prop :=
  (v = .slice none 0 0 ∧ bs = [] ∧ G = []) ∨ ∃ g cap cur fz, v = .slice (some ⟨g, 0, none⟩) bs.length cap ∧ G = [(g, .cells cur 5 fz)] ∧ B ≤ g ∧ fz.2 ≤ bs.length ∧ bs.length ≤ cap ∧ cap ≤ maxLen ∧ cur.size = cap ∧ cur.toList.take bs.length = bs
/-- a builder, and its row -/
def BldG (B b : Nat) (bs : List Value) (G : Grp) : Prop := B ≤ b ∧ ∃ p v Gr, (p = none ∨ p = some ⟨b, 0, none⟩) ∧ G = (b, .cells #[.pointer p, v] 43 (0, 0)) :: Gr ∧ RowF B v bs Gr
theorem BldG.new {B b : Nat} (h : B ≤ b) : BldG B b [] [(b, .cells #[.pointer none, .slice none 0 0] 43 (0, 0))] := ⟨h, _, _, _, .inl rfl, rfl, .inl ⟨rfl, rfl, rfl⟩⟩
theorem RowF.owns {I w : World} {R : List Grp} {B : Nat} {v : Value} {bs : List Value} {G : Grp} (h : RowF B v bs G) (hp : Hp I w (G :: R)) : w.ownsRowF B 5 1 v bs.length bs := by
  refine ⟨by simp, ?_⟩
  rcases h with ⟨rfl, rfl, _⟩ | ⟨g, cap, cur, fz, rfl, rfl, h1, h2, h3, h4, h5, h6⟩
  · exact .inl ⟨rfl, rfl⟩
  · exact .inr ⟨g, cap, cur, fz, rfl, h1, hp.blk, by omega, h3, h4, by omega, by rw [Nat.mul_one]; exact h6⟩
theorem RowF.of {w : World} {B n : Nat} {v : Value} {bs : List Value} (h : w.ownsRowF B 5 1 v n bs) : ∃ G, RowF B v bs G ∧ (∀ x ∈ G, w.heap[x.1]? = some x.2 ∧ v.ownBlock = some x.1) ∧ G.length ≤ 1 := by
  obtain ⟨hl, ⟨rfl, rfl⟩ | ⟨g, cap, cur, fz, rfl, h1, h2, h3, h4, h5, h6, h7⟩⟩ := h
  · exact ⟨[], .inl ⟨rfl, List.eq_nil_of_length_eq_zero (by simpa using hl), rfl⟩, by simp, by simp⟩
  · have hn : n = bs.length := by omega
    subst hn
    refine ⟨[(g, .cells cur 5 fz)], .inr ⟨g, cap, cur, fz, rfl, rfl, h1, by omega, h4, h5, by omega, by rw [Nat.mul_one] at h7; exact h7⟩, fun x hx => ?_, by simp⟩
    simp only [List.mem_singleton] at hx
    subst hx
    exact ⟨h2, rfl⟩
theorem RowF.own {B : Nat} {v : Value} {bs : List Value} {G : Grp} (r : RowF B v bs G) : ∀ g, v.ownBlock = some g ↔ g ∈ G.map Prod.fst := by
  intro g
  rcases r with ⟨rfl, _, rfl⟩ | ⟨g', cap, cur, fz, rfl, rfl, _⟩
  · simp [Value.ownBlock]
  · simp [Value.ownBlock, eq_comm]
theorem BldG.is {I w : World} {R : List Grp} {B b : Nat} {bs : List Value} {G : Grp} (h : BldG B b bs G) (hp : Hp I w (G :: R)) : Lib.IsBuilderF 43 5 B b bs w := by
  obtain ⟨hB, p, v, Gr, h1, rfl, h3⟩ := h
  have h2 := hp.cut
  have key : ∃ v, w.heap[b]? = some (.cells #[.pointer p, v] 43 (0, 0)) ∧ w.ownsRowF B 5 1 v bs.length bs ∧ v.ownBlock ≠ some b :=
    ⟨v, h2.blk, h3.owns h2.p2, fun e => by
      obtain ⟨x, hx, e⟩ := List.mem_map.1 ((h3.own b).1 e)
      exact h2.apart x (by simp only [List.flatten_cons, List.mem_append]; exact .inl hx) e⟩
  rcases h1 with rfl | rfl
  · exact .inl ⟨hB, key⟩
  · exact .inr ⟨hB, key⟩

set_option maxHeartbeats 2000000 in
set_option maxRecDepth 100000 in
theorem bld_put {I w : World} {R : List Grp} {B b : Nat} {bs : List Value} {G : Grp} (h : BldG B b bs G) (hp : Hp I w (G :: R)) (s : ByteArray) (hlen : bs.length + s.size ≤ 140737488355328) :
    Calls Tryz.prog 14 #[.pointer (some ⟨b, 0, none⟩), .string s] w fun e w' => e = .returned (.tuple #[.int .i64 s.size, .nilIface]) ∧ ∃ G', BldG B b (bs ++ Lib.strCells s) G' ∧ Hp I w' (G' :: R) := by
  obtain ⟨i0, hi, hz0, hz1, hz2⟩ := info_parts infoByte'
  have hX := h.is hp
  obtain ⟨hB, p, v, Gr, hpp, rfl, hr⟩ := h
  have hc := hp.cut
  have hbk0 := hc.blk
  have HC : Calls Tryz.prog 57 #[.pointer (some ⟨b, 0, none⟩)] w fun e w' => e = .returned (.tuple #[]) ∧ Hp I w' ([(b, .cells #[.pointer (some ⟨b, 0, none⟩), v] 43 (0, 0))] :: Gr :: R) := by
    rcases hpp with rfl | rfl
    · refine (copyCheck_fresh b w (by rw [cell_blk hbk0 0]; rfl) (by simp [World.shape?, hbk0]) (free_blk hbk0 0)).mono ?_
      rintro e w' ⟨rfl, rfl⟩
      exact ⟨rfl, hc.set 0 _⟩
    · refine (copyCheck_used b w (by rw [cell_blk hbk0 0]; rfl)).mono ?_
      rintro e w' ⟨rfl, rfl⟩
      exact ⟨rfl, hc⟩
  replace HC := Lib.hid HC
  clear hpp hbk0 hX
  go_enter Tryz.func14, Tryz.ntmps14
  go_wp2_with (go_at_call 57; refine HC.out.mono ?_)
  rintro e w1 ⟨rfl, h1⟩
  have hbk := h1.blk
  have hown := hr.owns h1.p2
  have hlt : b < w1.heap.size := lt_blk hbk
  have c0 : w1.cell? ⟨b, 0, none⟩ = some (.pointer (some ⟨b, 0, none⟩)) := by rw [cell_blk hbk 0]; rfl
  have c1 : w1.cell? ⟨b, 1, none⟩ = some v := by rw [cell_blk hbk 1]; rfl
  go_wp2_with (at_builtin; refine wpList_append_text rfl _ _ 28 9 rfl B 5 i0 Tryz.underlying28 Tryz.underlying9 hi hz0 hz1 hz2 _ _ _ rfl hown s rfl ?c3 ?c4 ?c5 ?_)
  case c3 => unfold maxLen; omega
  case c4 => omega
  case c5 => omega
  intro v' w2 hown' hgrow hnew
  have hown2 := Lib.hid hown'
  obtain ⟨ao, n', cap, rfl⟩ : ∃ ao n' cap, v' = .slice ao n' cap := by
    rcases hown'.2 with ⟨hv, _⟩ | ⟨g, cap, cur, fz, hv, _⟩
    · exact ⟨_, _, _, hv⟩
    · exact ⟨_, _, _, hv⟩
  have hne : v.ownBlock ≠ some b := fun e => by
    obtain ⟨x, hx, e⟩ := List.mem_map.1 ((hr.own b).1 e)
    exact h1.apart x (by simp only [List.flatten_cons, List.mem_append]; exact .inl hx) e
  obtain ⟨G', r', h2, h3⟩ := RowF.of hown'
  have hp2 : Hp I w2 (G' :: [(b, .cells #[.pointer (some ⟨b, 0, none⟩), v] 43 (0, 0))] :: R) := by
    refine h1.p2.turn ((Fr.grownBy hgrow).mono fun k _ hk => (hr.own k).1 hk.symm) ?_ fun x hx => ⟨(h2 x hx).1, ?_⟩
    · match G', h3 with
      | [], _ => simp
      | [_], _ => simp
    · rcases hnew _ (h2 x hx).2 with h4 | h4
      · exact .inl ((hr.own _).1 h4)
      · exact .inr h4
  have hb2 := hp2.p2.blk
  have d0 : w2.cell? ⟨b, 0, none⟩ = some (.pointer (some ⟨b, 0, none⟩)) := by rw [cell_blk hb2 0]; rfl
  have d1 : w2.cell? ⟨b, 1, none⟩ = some v := by rw [cell_blk hb2 1]; rfl
  have f1 : w2.frozen? ⟨b, 1, none⟩ = false := free_blk hb2 1
  replace hp2 := Lib.hid hp2.p2
  replace r' := Lib.hid r'
  clear hown' hown2 hgrow hnew h2 h3 hown hr h1 hp hc hb2
  go_wp2
  go_ret2
  exact ⟨rfl, _, ⟨hB, _, _, G', .inr rfl, rfl, r'.out⟩, (hp2.out.set 1 _).glue⟩
end Go.Proofs.YteicdpgmclbgjaaGreatDoor

/-
  A range over a function that keeps a value of its own in one cell: the law for its caller. No program in sight.
-/
namespace Go.Proofs.YteicdpgmclbgjaaGreatDoor
open Go.RowKit

/-- the iterator's own cell -/
def cellS (b : Nat) : Addr := ⟨b, 0, none⟩
/-- what a round that goes on leaves of it -/
def KeepC (b : Nat) (W W' : World) : Prop := W'.heap[b]? = W.heap[b]?
/-- what an iterator gives, one by one, whatever its caller keeps -/
def SeqCell {α : Type} (F : Fence) (n : Nat) (P : Program) (g : Nat) (lb : Array Value) (encs : α → Array Value) (b : Nat) (o0 : Obj) (S Sp : List α → Prop) (N : Nat) : Prop :=
  ∀ (l : Nat) (J Jx : List α → World → Prop) (W : World),
    (∀ s W v, J s W → J s (W.setCell (cellS b) v)) → (∀ s W, J s W → J s W.drew) →
    (∀ pre x W1, J pre W1 → pre.length < N → YieldAt F (n - 1) P l (encs x) W1 fun e W' =>
      (e = .returned (.bool true) ∧ J (pre ++ [x]) W' ∧ KeepC b W1 W') ∨ (e = .returned (.bool false) ∧ Jx (pre ++ [x]) W')) →
    J [] W → W.heap[b]? = some o0 →
    CallsIn F n P g (#[.func (.yield l) #[] #[]] ++ lb) W fun e W' => (∃ v, e = .returned v) ∧ ((∃ xs, S xs ∧ J xs W') ∨ (∃ pre, Sp pre ∧ Jx pre W'))
/-- how a body may be left -/
def leftAs {α : Type} (b : Nat) (I : List α → World → Prop) (Ix : Code → List α → World → Prop) (xs : List α) (W : World) : Exit → Act → World → Prop
  | .normal, _, W' => KeepsOthers W W' ∧ KeepC b W W' ∧ I xs W'
  | .ret, _, W' => KeepsOthers W W' ∧ Ix .ret xs W'
  | _, _, _ => False
/-- what a caller's word abides -/
structure Abide {β : Type} (b D : Nat) (I : β → World → Prop) : Prop where
  put : ∀ s W l o o', I s W → D ≤ l → W.heap[l]? = some o → o.isCells = false → I s (W.putObj l o')
  set : ∀ s W v, I s W → I s (W.setCell (cellS b) v)
  drew : ∀ s W, I s W → I s W.drew

theorem set_other {W : World} {b k : Nat} {o : Obj} {v : Value} (h : W.heap[k]? = some o) (ho : o.isCells = false) : (W.setCell (cellS b) v).heap[k]? = some o := by
  rw [heap_setCell]
  split
  next e =>
    rw [h]
    cases o <;> first | rfl | (simp [Obj.isCells] at ho)
  · exact h

section
variable {F : Fence} {n : Nat} {P : Program}
theorem range_cell {α : Type} {g : Operand} {ps : Array Tmp} {assign body : Code} {Q : Exit → Act → World → Prop} {a : Act} {w : World}
    (hro : F.round = none) (h1 : 1 ≤ n) {gf : Nat} {lb : Array Value} (hg : a.eval g = .func (.func gf) #[] lb) (hFg : F.fn gf) (eg : ∀ args w, (callFunc gf args).run P w = .ok (.enter gf args) w)
    {encs : α → Array Value} {b : Nat} {o0 : Obj} {S Sp : List α → Prop} {N : Nat} (hseq : SeqCell F (n - 1) P gf lb encs b o0 S Sp N) (hb : w.heap[b]? = some o0) (hps : ∀ x, (encs x).size = ps.size)
    (I : List α → World → Prop) (Ix : Code → List α → World → Prop) (hI : Abide b w.heap.size I) (hIx : ∀ c, Abide b w.heap.size (Ix c))
    (h0 : ∀ o o', I [] ((w.alloc o).alloc o')) (a₁ : α → Act)
    (hassign : ∀ (l : Nat) (x : α) (W : World) (K : Act → World → Prop), K (a₁ x) W →
      assign.wpIn (F.inRound l) (n - 1 - 1) P (Exit.then K (fun _ _ _ => False)) { tmps := (ps.zip (encs x)).foldl (fun t (p, v) => t.setIfInBounds p v) a.tmps, defers := [] } W)
    (hbody : ∀ (l : Nat) (pre : List α) (x : α) (W : World), I pre W → pre.length < N → body.wpIn (F.inRound l) (n - 1 - 1) P (leftAs b I Ix (pre ++ [x]) W) (a₁ x) W)
    (hdone : ∀ (D : Nat) (xs : List α) (W : World), S xs → I xs W → W.heap[D]? = some (.deferred (some [])) → w.heap.size ≤ D → Q .normal { a with defers := { target := .collected D, args := #[] } :: a.defers } W)
    (hstop : ∀ (D : Nat) (pre : List α) (W : World), Sp pre → Ix .ret pre W → W.heap[D]? = some (.deferred (some [])) → w.heap.size ≤ D → Code.ret.wpIn F n P Q { a with defers := { target := .collected D, args := #[] } :: a.defers } W) :
    (Code.rangeFunc g ps assign body).wpIn F n P Q a w := by
  have hbl : b < w.heap.size := lt_blk hb
  refine wpIn_rangeFunc fun fn hfn => ?_
  rw [hro]
  -- the loop's record
  let rec_ : LoopState → Option Code → Loop := fun st pe => { state := st, pending := pe, fn, tmps := a.tmps, params := ps, assign, body, defers := w.heap.size }
  have szR : (w.alloc (.deferred (some []))).heap.size = w.heap.size + 1 := World.size_alloc ..
  have hL : ((w.alloc (.deferred (some []))).alloc (.loop (rec_ .ready none))).heap[w.heap.size + 1]? = some (.loop (rec_ .ready none)) := by
    rw [heap_alloc, if_pos szR.symm]
  have hD : ((w.alloc (.deferred (some []))).alloc (.loop (rec_ .ready none))).heap[w.heap.size]? = some (.deferred (some [])) := by
    rw [heap_alloc, if_neg (by omega), heap_alloc, if_pos rfl]
  have hB : ((w.alloc (.deferred (some []))).alloc (.loop (rec_ .ready none))).heap[b]? = some o0 := by
    rw [heap_alloc, if_neg (by omega), heap_alloc, if_neg (by omega)]; exact hb
  obtain ⟨W1, hW1⟩ : ∃ W1, W1 = (w.alloc (.deferred (some []))).alloc (.loop (rec_ .ready none)) := ⟨_, rfl⟩
  refine ⟨w.heap.size + 1, [{ target := .collected w.heap.size, args := #[] }], W1, { target := .fn (.func gf) lb, args := #[.func (.yield (w.heap.size + 1)) #[] #[]] }, W1, gf,
    #[.func (.yield (w.heap.size + 1)) #[] #[]] ++ lb, W1, ?_, ?_, ?_, ?_, fun _ => h1, ?_⟩
  · rw [hW1]; exact run_enterLoop_outer _ _ _ _ _
  · simp only [resolve, hg]
    simp [go_sem]
  · intro f' hf'; simp [Target.leads] at hf'; subst hf'; exact hFg
  · simp [invoke, go_sem, eg]
  rw [← hW1] at hL hD hB
  have h0' : I [] W1 := by rw [hW1]; exact h0 _ _
  -- the caller's word, and the record's
  have keep : ∀ (c : Option Code) (st : LoopState) (W : World) (l : Nat) (o : Obj), W.heap[w.heap.size + 1]? = some (.loop (rec_ st c)) → W.heap[w.heap.size]? = some o →
      (W.putObj (w.heap.size + 1) (.loop (rec_ st c))).heap[w.heap.size]? = some o := fun c st W l o _ h => (World.putObj_heap_other (by omega)).trans h
  refine (hseq (w.heap.size + 1)
    (fun pre W => I pre W ∧ W.heap[w.heap.size + 1]? = some (.loop (rec_ .ready none)) ∧ W.heap[w.heap.size]? = some (.deferred (some [])))
    (fun pre W => Ix .ret pre W ∧ W.heap[w.heap.size + 1]? = some (.loop (rec_ .done (some .ret))) ∧ W.heap[w.heap.size]? = some (.deferred (some [])))
    _ (fun s W v h => ⟨hI.set _ _ _ h.1, set_other h.2.1 rfl, set_other h.2.2 rfl⟩) (fun s W h => ⟨hI.drew _ _ h.1, h.2.1, h.2.2⟩) ?_ ⟨h0', hL, hD⟩ hB).mono ?_
  · rintro pre x W ⟨hi, hl, hk⟩ hlen
    have hy := run_yield (P := P) (args := encs x) hl (hps x)
    refine ⟨fn, _, assign, body, hy, roundIn_of_wpIn hfn (hassign _ x W _ ⟨_, run_beginRound hl rfl, ?_⟩)⟩
    have hlt : w.heap.size + 1 < W.heap.size := lt_blk hl
    obtain ⟨Wb, hWb⟩ : ∃ Wb, Wb = W.putObj (w.heap.size + 1) (.loop { rec_ .ready none with state := .busy }) := ⟨_, rfl⟩
    have hl2 : Wb.heap[w.heap.size + 1]? = some (.loop { rec_ .ready none with state := .busy }) := by rw [hWb]; exact World.putObj_heap_same hlt
    have hk2 : Wb.heap[w.heap.size]? = some (.deferred (some [])) := by rw [hWb]; exact (World.putObj_heap_other (by omega)).trans hk
    have hi2 : I pre Wb := by rw [hWb]; exact hI.put _ _ _ _ _ hi (by omega) hl rfl
    have hc2 : KeepC b W Wb := by rw [hWb]; exact World.putObj_heap_other (by omega)
    rw [← hWb]
    refine wpIn_mono (hbody _ pre x _ hi2 hlen) ?_
    have fin : ∀ (jump : Option Code) (W3 : World), KeepsOthers Wb W3 →
        (Instr.endRound (w.heap.size + 1) jump).run P W3 = .ok (.bool jump.isNone) (W3.putObj (w.heap.size + 1) (.loop (rec_ (if jump.isNone then .ready else .done) jump))) ∧
        W3.heap[w.heap.size + 1]? = some (.loop { rec_ .ready none with state := .busy }) ∧
        (W3.putObj (w.heap.size + 1) (.loop (rec_ (if jump.isNone then .ready else .done) jump))).heap[w.heap.size + 1]? = some (.loop (rec_ (if jump.isNone then .ready else .done) jump)) ∧
        (W3.putObj (w.heap.size + 1) (.loop (rec_ (if jump.isNone then .ready else .done) jump))).heap[w.heap.size]? = some (.deferred (some [])) := fun jump W3 hk3 => by
      have hl3 := hk3.same _ _ hl2 rfl
      exact ⟨run_endRound (P := P) jump hl3, hl3, World.putObj_heap_same (lt_blk hl3), (World.putObj_heap_other (by omega)).trans (hk3.same _ _ hk2 rfl)⟩
    rintro e a3 W3 hp
    cases e with
    | normal =>
      obtain ⟨hk3, hkc, hi3⟩ := hp
      obtain ⟨hr, hl3, hl4, hk4⟩ := fin none W3 hk3
      exact ⟨_, _, hr, .inl ⟨rfl, ⟨hI.put _ _ _ _ _ hi3 (by omega) hl3 rfl, hl4, hk4⟩, ((World.putObj_heap_other (by omega)).trans hkc).trans hc2⟩⟩
    | ret =>
      obtain ⟨hk3, hi3⟩ := hp
      obtain ⟨hr, hl3, hl4, hk4⟩ := fin (some .ret) W3 hk3
      exact ⟨_, _, hr, .inr ⟨rfl, (hIx _).put _ _ _ _ _ hi3 (by omega) hl3 rfl, hl4, hk4⟩⟩
    | exit id => exact hp.elim
    | goto t => exact hp.elim
    | panic ch => exact hp.elim
    | outgrown => exact hp.elim
  · rintro e W2 ⟨⟨v, rfl⟩, (⟨xs, hS, hi, hl, hk⟩ | ⟨pre, hSp, hi, hl, hk⟩)⟩
    · exact ⟨none, _, run_endLoop (P := P) hl (by simp [rec_]), hdone _ xs _ hS (hI.put _ _ _ _ _ hi (by omega) hl rfl) ((World.putObj_heap_other (by omega)).trans hk) (Nat.le_refl _)⟩
    · exact ⟨some .ret, _, run_endLoop (P := P) hl (by simp [rec_]), hstop _ pre _ hSp ((hIx _).put _ _ _ _ _ hi (by omega) hl rfl) ((World.putObj_heap_other (by omega)).trans hk) (Nat.le_refl _)⟩
end
end Go.Proofs.YteicdpgmclbgjaaGreatDoor

/-
  A range over a function that keeps a value of its own in one cell: the law anew, where the body turns whatever but the loop's own blocks. No program in sight.
-/
namespace Go.Proofs.YteicdpgmclbgjaaGreatDoor
open Go.RowKit

/-- the loop's own two blocks stay -/
def KeepsLoop (D : Nat) (W W' : World) : Prop := W'.heap[D]? = W.heap[D]? ∧ W'.heap[D + 1]? = W.heap[D + 1]?
/-- what an iterator gives, one by one, whatever its caller keeps; which one is next is told -/
def SeqNext {α : Type} (F : Fence) (n : Nat) (P : Program) (g : Nat) (lb : Array Value) (encs : α → Array Value) (b : Nat) (o0 : Obj) (S Sp : List α → Prop) (Nx : List α → α → Prop) : Prop :=
  ∀ (l : Nat) (J Jx : List α → World → Prop) (W : World),
    (∀ s W v, J s W → J s (W.setCell (cellS b) v)) → (∀ s W, J s W → J s W.drew) →
    (∀ pre x W1, J pre W1 → Nx pre x → YieldAt F (n - 1) P l (encs x) W1 fun e W' =>
      (e = .returned (.bool true) ∧ J (pre ++ [x]) W' ∧ KeepC b W1 W') ∨ (e = .returned (.bool false) ∧ Jx (pre ++ [x]) W')) →
    J [] W → W.heap[b]? = some o0 →
    CallsIn F n P g (#[.func (.yield l) #[] #[]] ++ lb) W fun e W' => (∃ v, e = .returned v) ∧ ((∃ xs, S xs ∧ J xs W') ∨ (∃ pre, Sp pre ∧ Jx pre W'))
/-- how a body may be left -/
def leftAs2 {α : Type} (b D : Nat) (I : List α → World → Prop) (Ix : Code → List α → World → Prop) (xs : List α) (W : World) : Exit → Act → World → Prop
  | .normal, _, W' => KeepsLoop D W W' ∧ KeepC b W W' ∧ I xs W'
  | .ret, _, W' => KeepsLoop D W W' ∧ Ix .ret xs W'
  | _, _, _ => False
/-- what a caller's word abides -/
structure Abide2 {β : Type} (b D : Nat) (I : β → World → Prop) : Prop where
  put : ∀ s W l o o', I s W → (l = D ∨ l = D + 1) → W.heap[l]? = some o → o.isCells = false → I s (W.putObj l o')
  set : ∀ s W v, I s W → I s (W.setCell (cellS b) v)
  drew : ∀ s W, I s W → I s W.drew

section
variable {F : Fence} {n : Nat} {P : Program}
theorem range_cell2 {α : Type} {g : Operand} {ps : Array Tmp} {assign body : Code} {Q : Exit → Act → World → Prop} {a : Act} {w : World}
    (hro : F.round = none) (h1 : 1 ≤ n) {gf : Nat} {lb : Array Value} (hg : a.eval g = .func (.func gf) #[] lb) (hFg : F.fn gf) (eg : ∀ args w, (callFunc gf args).run P w = .ok (.enter gf args) w)
    {encs : α → Array Value} {b : Nat} {o0 : Obj} {S Sp : List α → Prop} {Nx : List α → α → Prop} (hseq : SeqNext F (n - 1) P gf lb encs b o0 S Sp Nx) (hb : w.heap[b]? = some o0) (hps : ∀ x, (encs x).size = ps.size)
    (I : List α → World → Prop) (Ix : Code → List α → World → Prop) (hI : Abide2 b w.heap.size I) (hIx : ∀ c, Abide2 b w.heap.size (Ix c))
    (h0 : ∀ o o', I [] ((w.alloc o).alloc o')) (a₁ : α → Act)
    (hassign : ∀ (l : Nat) (x : α) (W : World) (K : Act → World → Prop), K (a₁ x) W →
      assign.wpIn (F.inRound l) (n - 1 - 1) P (Exit.then K (fun _ _ _ => False)) { tmps := (ps.zip (encs x)).foldl (fun t (p, v) => t.setIfInBounds p v) a.tmps, defers := [] } W)
    (hbody : ∀ (l : Nat) (pre : List α) (x : α) (W : World), I pre W → Nx pre x → body.wpIn (F.inRound l) (n - 1 - 1) P (leftAs2 b w.heap.size I Ix (pre ++ [x]) W) (a₁ x) W)
    (hdone : ∀ (D : Nat) (xs : List α) (W : World), S xs → I xs W → W.heap[D]? = some (.deferred (some [])) → D = w.heap.size → Q .normal { a with defers := { target := .collected D, args := #[] } :: a.defers } W)
    (hstop : ∀ (D : Nat) (pre : List α) (W : World), Sp pre → Ix .ret pre W → W.heap[D]? = some (.deferred (some [])) → D = w.heap.size → Code.ret.wpIn F n P Q { a with defers := { target := .collected D, args := #[] } :: a.defers } W) :
    (Code.rangeFunc g ps assign body).wpIn F n P Q a w := by
  have hbl : b < w.heap.size := lt_blk hb
  refine wpIn_rangeFunc fun fn hfn => ?_
  rw [hro]
  -- the loop's record
  let rec_ : LoopState → Option Code → Loop := fun st pe => { state := st, pending := pe, fn, tmps := a.tmps, params := ps, assign, body, defers := w.heap.size }
  have szR : (w.alloc (.deferred (some []))).heap.size = w.heap.size + 1 := World.size_alloc ..
  have hL : ((w.alloc (.deferred (some []))).alloc (.loop (rec_ .ready none))).heap[w.heap.size + 1]? = some (.loop (rec_ .ready none)) := by
    rw [heap_alloc, if_pos szR.symm]
  have hD : ((w.alloc (.deferred (some []))).alloc (.loop (rec_ .ready none))).heap[w.heap.size]? = some (.deferred (some [])) := by
    rw [heap_alloc, if_neg (by omega), heap_alloc, if_pos rfl]
  have hB : ((w.alloc (.deferred (some []))).alloc (.loop (rec_ .ready none))).heap[b]? = some o0 := by
    rw [heap_alloc, if_neg (by omega), heap_alloc, if_neg (by omega)]; exact hb
  obtain ⟨W1, hW1⟩ : ∃ W1, W1 = (w.alloc (.deferred (some []))).alloc (.loop (rec_ .ready none)) := ⟨_, rfl⟩
  refine ⟨w.heap.size + 1, [{ target := .collected w.heap.size, args := #[] }], W1, { target := .fn (.func gf) lb, args := #[.func (.yield (w.heap.size + 1)) #[] #[]] }, W1, gf,
    #[.func (.yield (w.heap.size + 1)) #[] #[]] ++ lb, W1, ?_, ?_, ?_, ?_, fun _ => h1, ?_⟩
  · rw [hW1]; exact run_enterLoop_outer _ _ _ _ _
  · simp only [resolve, hg]
    simp [go_sem]
  · intro f' hf'; simp [Target.leads] at hf'; subst hf'; exact hFg
  · simp [invoke, go_sem, eg]
  rw [← hW1] at hL hD hB
  have h0' : I [] W1 := by rw [hW1]; exact h0 _ _
  -- the caller's word, and the record's
  have keep : ∀ (c : Option Code) (st : LoopState) (W : World) (l : Nat) (o : Obj), W.heap[w.heap.size + 1]? = some (.loop (rec_ st c)) → W.heap[w.heap.size]? = some o →
      (W.putObj (w.heap.size + 1) (.loop (rec_ st c))).heap[w.heap.size]? = some o := fun c st W l o _ h => (World.putObj_heap_other (by omega)).trans h
  refine (hseq (w.heap.size + 1)
    (fun pre W => I pre W ∧ W.heap[w.heap.size + 1]? = some (.loop (rec_ .ready none)) ∧ W.heap[w.heap.size]? = some (.deferred (some [])))
    (fun pre W => Ix .ret pre W ∧ W.heap[w.heap.size + 1]? = some (.loop (rec_ .done (some .ret))) ∧ W.heap[w.heap.size]? = some (.deferred (some [])))
    _ (fun s W v h => ⟨hI.set _ _ _ h.1, set_other h.2.1 rfl, set_other h.2.2 rfl⟩) (fun s W h => ⟨hI.drew _ _ h.1, h.2.1, h.2.2⟩) ?_ ⟨h0', hL, hD⟩ hB).mono ?_
  · rintro pre x W ⟨hi, hl, hk⟩ hlen
    have hy := run_yield (P := P) (args := encs x) hl (hps x)
    refine ⟨fn, _, assign, body, hy, roundIn_of_wpIn hfn (hassign _ x W _ ⟨_, run_beginRound hl rfl, ?_⟩)⟩
    have hlt : w.heap.size + 1 < W.heap.size := lt_blk hl
    obtain ⟨Wb, hWb⟩ : ∃ Wb, Wb = W.putObj (w.heap.size + 1) (.loop { rec_ .ready none with state := .busy }) := ⟨_, rfl⟩
    have hl2 : Wb.heap[w.heap.size + 1]? = some (.loop { rec_ .ready none with state := .busy }) := by rw [hWb]; exact World.putObj_heap_same hlt
    have hk2 : Wb.heap[w.heap.size]? = some (.deferred (some [])) := by rw [hWb]; exact (World.putObj_heap_other (by omega)).trans hk
    have hi2 : I pre Wb := by rw [hWb]; exact hI.put _ _ _ _ _ hi (by omega) hl rfl
    have hc2 : KeepC b W Wb := by rw [hWb]; exact World.putObj_heap_other (by omega)
    rw [← hWb]
    refine wpIn_mono (hbody _ pre x _ hi2 hlen) ?_
    have fin : ∀ (jump : Option Code) (W3 : World), KeepsLoop w.heap.size Wb W3 →
        (Instr.endRound (w.heap.size + 1) jump).run P W3 = .ok (.bool jump.isNone) (W3.putObj (w.heap.size + 1) (.loop (rec_ (if jump.isNone then .ready else .done) jump))) ∧
        W3.heap[w.heap.size + 1]? = some (.loop { rec_ .ready none with state := .busy }) ∧
        (W3.putObj (w.heap.size + 1) (.loop (rec_ (if jump.isNone then .ready else .done) jump))).heap[w.heap.size + 1]? = some (.loop (rec_ (if jump.isNone then .ready else .done) jump)) ∧
        (W3.putObj (w.heap.size + 1) (.loop (rec_ (if jump.isNone then .ready else .done) jump))).heap[w.heap.size]? = some (.deferred (some [])) := fun jump W3 hk3 => by
      have hl3 := hk3.2.trans hl2
      exact ⟨run_endRound (P := P) jump hl3, hl3, World.putObj_heap_same (lt_blk hl3), (World.putObj_heap_other (by omega)).trans (hk3.1.trans hk2)⟩
    rintro e a3 W3 hp
    cases e with
    | normal =>
      obtain ⟨hk3, hkc, hi3⟩ := hp
      obtain ⟨hr, hl3, hl4, hk4⟩ := fin none W3 hk3
      exact ⟨_, _, hr, .inl ⟨rfl, ⟨hI.put _ _ _ _ _ hi3 (by omega) hl3 rfl, hl4, hk4⟩, ((World.putObj_heap_other (by omega)).trans hkc).trans hc2⟩⟩
    | ret =>
      obtain ⟨hk3, hi3⟩ := hp
      obtain ⟨hr, hl3, hl4, hk4⟩ := fin (some .ret) W3 hk3
      exact ⟨_, _, hr, .inr ⟨rfl, (hIx _).put _ _ _ _ _ hi3 (by omega) hl3 rfl, hl4, hk4⟩⟩
    | exit id => exact hp.elim
    | goto t => exact hp.elim
    | panic ch => exact hp.elim
    | outgrown => exact hp.elim
  · rintro e W2 ⟨⟨v, rfl⟩, (⟨xs, hS, hi, hl, hk⟩ | ⟨pre, hSp, hi, hl, hk⟩)⟩
    · exact ⟨none, _, run_endLoop (P := P) hl (by simp [rec_]), hdone _ xs _ hS (hI.put _ _ _ _ _ hi (by omega) hl rfl) ((World.putObj_heap_other (by omega)).trans hk) rfl⟩
    · exact ⟨some .ret, _, run_endLoop (P := P) hl (by simp [rec_]), hstop _ pre _ hSp ((hIx _).put _ _ _ _ _ hi (by omega) hl rfl) ((World.putObj_heap_other (by omega)).trans hk) rfl⟩
end
end Go.Proofs.YteicdpgmclbgjaaGreatDoor
