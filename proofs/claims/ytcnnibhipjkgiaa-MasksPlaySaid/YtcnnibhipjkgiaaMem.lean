/-
  Plain facts about memory (worlds, blocks, frames), over any program. No condition.
-/
import Derived.Test.YtcnnibhipjkgiaaRows
import Derived.WalkKit
import Derived.WalkSpells
import Derived.WalkLawsBesides
import Derived.Lib.Hide
import Derived.Laws.AppendOwnNone
import Derived.Deep.Slices
namespace Go.Proofs.Ytcnnibhipjkgiaa
open Go.RowKit

/-- a cell out of a known block -/
theorem cell_blk {w : World} {b : Nat} {c : Array Value} {t : TypeId} {f : Nat × Nat} (h : w.heap[b]? = some (.cells c t f)) (i : Nat) :
    w.cell? ⟨b, i, none⟩ = c[i]? := by simp [World.cell?, h]
theorem free_blk {w : World} {b : Nat} {c : Array Value} {t : TypeId} (h : w.heap[b]? = some (.cells c t (0, 0))) (i : Nat) :
    w.frozen? ⟨b, i, none⟩ = false := by simp [World.frozen?, h]
theorem blk2 {w : World} {b : Nat} {x0 x1 : Value} {t : TypeId} (h : w.heap[b]? = some (.cells #[x0, x1] t (0, 0))) :
    w.cell? ⟨b, 0, none⟩ = some x0 ∧ w.cell? ⟨b, 1, none⟩ = some x1 := ⟨cell_blk h 0, cell_blk h 1⟩
theorem blk3 {w : World} {b : Nat} {x0 x1 x2 : Value} {t : TypeId} (h : w.heap[b]? = some (.cells #[x0, x1, x2] t (0, 0))) :
    w.cell? ⟨b, 0, none⟩ = some x0 ∧ w.cell? ⟨b, 1, none⟩ = some x1 ∧ w.cell? ⟨b, 2, none⟩ = some x2 := ⟨cell_blk h 0, cell_blk h 1, cell_blk h 2⟩
theorem blk4 {w : World} {b : Nat} {x0 x1 x2 x3 : Value} {t : TypeId} (h : w.heap[b]? = some (.cells #[x0, x1, x2, x3] t (0, 0))) :
    w.cell? ⟨b, 0, none⟩ = some x0 ∧ w.cell? ⟨b, 1, none⟩ = some x1 ∧ w.cell? ⟨b, 2, none⟩ = some x2 ∧ w.cell? ⟨b, 3, none⟩ = some x3 :=
  ⟨cell_blk h 0, cell_blk h 1, cell_blk h 2, cell_blk h 3⟩

theorem heap_setCell (w : World) (a : Addr) (v : Value) (k : Nat) : (w.setCell a v).heap[k]? =
    if k = a.block then (w.heap[k]?).map (fun | .cells c elem fr => .cells (if a.spot.isSome then c else c.setIfInBounds a.off v) elem fr | o => o) else w.heap[k]? := by
  show (w.heap.modify a.block _)[k]? = _
  rw [Array.getElem?_modify]
  by_cases h : a.block = k
  · subst h; simp; rfl
  · rw [if_neg h, if_neg (fun e => h e.symm)]
theorem heap_setCell_ne {w : World} {a : Addr} {v : Value} {k : Nat} (h : k ≠ a.block) : (w.setCell a v).heap[k]? = w.heap[k]? := by
  rw [heap_setCell, if_neg h]
theorem heap_setCell_at {w : World} {b i : Nat} {v : Value} {c : Array Value} {t : TypeId} {f : Nat × Nat} (h : w.heap[b]? = some (.cells c t f)) :
    (w.setCell ⟨b, i, none⟩ v).heap[b]? = some (.cells (c.setIfInBounds i v) t f) := by
  rw [heap_setCell, if_pos rfl, h]; rfl
theorem size_setCell (w : World) (a : Addr) (v : Value) : (w.setCell a v).heap.size = w.heap.size := by simp [World.setCell]
theorem heap_alloc_ne {w : World} {o : Obj} {k : Nat} (h : k < w.heap.size) : (w.alloc o).heap[k]? = w.heap[k]? := Below.heap_alloc w o k h
theorem heap_alloc (w : World) (o : Obj) (k : Nat) : (w.alloc o).heap[k]? = if k = w.heap.size then some o else w.heap[k]? := by
  show (w.heap.push o)[k]? = _
  rw [Array.getElem?_push]
theorem size_alloc (w : World) (o : Obj) : (w.alloc o).heap.size = w.heap.size + 1 := by
  show (w.heap.push o).size = _
  simp
theorem lt_blk {w : World} {b : Nat} {o : Obj} (h : w.heap[b]? = some o) : b < w.heap.size := lt_of_block h

/-- What a call may do: blocks outside of S that were there are as they were; the streams too. -/
structure Fr (S : Nat → Prop) (w w' : World) : Prop where
  os : w'.os = w.os
  tape : w'.tape = w.tape
  output : w'.output = w.output
  size : w.heap.size ≤ w'.heap.size
  same : ∀ b, b < w.heap.size → ¬ S b → w'.heap[b]? = w.heap[b]?

theorem Fr.refl (S : Nat → Prop) (w : World) : Fr S w w := ⟨rfl, rfl, rfl, Nat.le_refl _, fun _ _ _ => rfl⟩
theorem Fr.mono {S T : Nat → Prop} {w w' : World} (h : Fr S w w') (hs : ∀ b, b < w.heap.size → S b → T b) : Fr T w w' :=
  ⟨h.os, h.tape, h.output, h.size, fun b hb hn => h.same b hb (fun hS => hn (hs b hb hS))⟩
theorem Fr.trans {S T : Nat → Prop} {u v w : World} (h : Fr S u v) (k : Fr T v w) (hT : ∀ b, b < u.heap.size → T b → S b) : Fr S u w :=
  ⟨k.os.trans h.os, k.tape.trans h.tape, k.output.trans h.output, Nat.le_trans h.size k.size,
   fun b hb hn => (k.same b (Nat.lt_of_lt_of_le hb h.size) (fun ht => hn (hT b hb ht))).trans (h.same b hb hn)⟩
theorem Fr.drewN {S : Nat → Prop} {u v : World} (h : Fr S u v) (n : Nat) : Fr S u (v.drewN n) := ⟨h.os, h.tape, h.output, h.size, h.same⟩
theorem Fr.drew {S : Nat → Prop} {u v : World} (h : Fr S u v) : Fr S u v.drew := ⟨h.os, h.tape, h.output, h.size, h.same⟩
theorem Fr.alloc {S : Nat → Prop} {u v : World} (h : Fr S u v) (o : Obj) : Fr S u (v.alloc o) :=
  ⟨h.os, h.tape, h.output, Nat.le_trans h.size (by simp), fun b hb hn => (Below.heap_alloc v o b (Nat.lt_of_lt_of_le hb h.size)).trans (h.same b hb hn)⟩
theorem Fr.setCell {S : Nat → Prop} {u v : World} (h : Fr S u v) (p : Addr) (x : Value) (hp : S p.block ∨ u.heap.size ≤ p.block) : Fr S u (v.setCell p x) :=
  ⟨h.os, h.tape, h.output, by rw [size_setCell]; exact h.size, fun b hb hn => (heap_setCell_ne (fun e => by
    subst e
    rcases hp with hp | hp
    · exact hn hp
    · omega)).trans (h.same b hb hn)⟩
theorem Fr.at {S : Nat → Prop} {w w' : World} (h : Fr S w w') {b : Nat} {o : Obj} (hb : w.heap[b]? = some o) (hn : ¬ S b) : w'.heap[b]? = some o :=
  (h.same b (lt_blk hb) hn).trans hb
theorem Fr.below {S : Nat → Prop} {w w' : World} (h : Fr S w w') {B : Nat} (hB : B ≤ w.heap.size) (hS : ∀ b, S b → B ≤ b) : Below B w w' :=
  ⟨h.os, h.tape, h.output, h.size, fun b hb => h.same b (by omega) (fun hs => by have := hS b hs; omega)⟩
theorem Below.fr {w w' : World} (h : Below w.heap.size w w') (S : Nat → Prop) : Fr S w w' := ⟨h.os, h.tape, h.output, h.size, fun b hb _ => h.block b hb⟩
theorem Fr.grownBy {w w' : World} {row : Option Nat} (h : w.grownBy w' row) : Fr (fun b => some b = row) w w' :=
  ⟨h.os, h.tape, h.output, h.size, fun b hb hn => h.block b hb hn⟩

theorem Fr.grown {S : Nat → Prop} {u v v' : World} {e : TypeId} {sz n : Nat} {x : Value} {xs : List Value} (h : Fr S u v) (hg : v.grownBy v' x.ownBlock) (ho : v.ownsRow u.heap.size e sz x n xs) : Fr S u v' :=
  h.trans (Fr.grownBy hg) (fun b hb e => by have := ho.lt b e.symm; omega)

/-- the cells of a block that was just made -/
theorem cells_new (w : World) (vs : List Value) (t : TypeId) : ∀ j u, vs[j]? = some u → (w.alloc (.cells vs.toArray t)).cell? ((⟨w.heap.size, 0, none⟩ : Addr).add j) = some u := by
  intro j u hu
  have : (⟨w.heap.size, 0, none⟩ : Addr).add j = ⟨w.heap.size, j, none⟩ := by unfold Addr.add; split <;> simp_all
  rw [this, cell_blk (by rw [heap_alloc, if_pos rfl])]
  simpa using hu

/-- a slice of new memory is returned -/
def RetRow (T sz n : Nat) (xs : List Value) (w : World) (e : Ending) (w' : World) : Prop :=
  ∃ a c, e = .returned (.slice a n c) ∧ w'.ownsRow w.heap.size T sz (.slice a n c) n xs ∧ Fr (fun _ => False) w w'

/-- a slice of new memory is returned; what S names may have turned; I holds -/
def RetRowI (T sz n : Nat) (xs : List Value) (S : Nat → Prop) (I : World → Prop) (w : World) (e : Ending) (w' : World) : Prop :=
  ∃ a c, e = .returned (.slice a n c) ∧ w'.ownsRow w.heap.size T sz (.slice a n c) n xs ∧ Fr S w w' ∧ I w'

theorem ownsRow_fr {S : Nat → Prop} {w w' : World} {B T sz n : Nat} {v : Value} {xs : List Value} (h : w.ownsRow B T sz v n xs) (hf : Fr S w w') (hS : ∀ b, S b → b < B) : w'.ownsRow B T sz v n xs := by
  refine ⟨h.1, ?_⟩
  rcases h.2 with h2 | ⟨g, cap, cur, hv, hg, hh, r⟩
  · exact .inl h2
  · exact .inr ⟨g, cap, cur, hv, hg, hf.at hh (fun hs => by have := hS g hs; omega), r⟩

theorem ownsRow_mono {w : World} {B B' T sz n : Nat} {v : Value} {xs : List Value} (h : w.ownsRow B T sz v n xs) (hB : B' ≤ B) : w.ownsRow B' T sz v n xs := by
  refine ⟨h.1, ?_⟩
  rcases h.2 with h2 | ⟨g, cap, cur, hv, hg, r⟩
  · exact .inl h2
  · exact .inr ⟨g, cap, cur, hv, by omega, r⟩

theorem ownsRow_form {w : World} {B T sz n : Nat} {v : Value} {xs : List Value} (h : w.ownsRow B T sz v n xs) : ∃ a c, v = .slice a n c := by
  rcases h.2 with ⟨rfl, rfl⟩ | ⟨g, cap, cur, rfl, _⟩
  · exact ⟨_, _, rfl⟩
  · exact ⟨_, _, rfl⟩

theorem RetRow.mk' {T sz n m : Nat} {xs ys : List Value} {w w' : World} {v : Value} (h : w'.ownsRow w.heap.size T sz v n xs) (hf : Fr (fun _ => False) w w') (hn : n = m) (hx : xs = ys) :
    RetRow T sz m ys w (.returned v) w' := by
  subst hn hx
  obtain ⟨a, c, rfl⟩ := ownsRow_form h
  exact ⟨a, c, rfl, h, hf⟩

/-- a slice value of n elements of sz cells that reads as xs -/
def Rd (w : World) (sz : Nat) (v : Value) (n : Nat) (xs : List Value) : Prop :=
  ∃ a c, v = .slice a n c ∧ n ≤ c ∧ xs.length = n * sz ∧ (a = none → c = 0) ∧ ∀ j u, xs[j]? = some u → ∃ ad, a = some ad ∧ w.cell? (ad.add j) = some u

theorem ownsRow_rd {w : World} {B T sz n : Nat} {v : Value} {xs : List Value} (h : w.ownsRow B T sz v n xs) : Rd w sz v n xs := by
  rcases h.2 with ⟨rfl, rfl⟩ | ⟨g, cap, cur, rfl, _, hg, hn, _, _, ht⟩
  · refine ⟨none, 0, rfl, Nat.le_refl _, h.1, fun _ => rfl, ?_⟩
    have : xs = [] := List.eq_nil_of_length_eq_zero (by simpa using h.1)
    subst this; simp
  · refine ⟨_, cap, rfl, hn, h.1, (fun e => by cases e), fun j u hu => ⟨_, rfl, ?_⟩⟩
    exact World.ownsRow.cells h (by rfl) j u hu

theorem Rd.to {w : World} {sz n c : Nat} {a : Option Addr} {xs : List Value} (h : Rd w sz (.slice a n c) n xs) {k : Nat} (hk : k ≤ n) : Rd w sz (.slice a k c) k (xs.take (k * sz)) := by
  obtain ⟨a', c', hv, hc, hl, hn, hx⟩ := h
  simp only [Value.slice.injEq] at hv
  obtain ⟨rfl, _, rfl⟩ := hv
  refine ⟨a, c, rfl, by omega, ?_, hn, fun j u hu => ?_⟩
  · rw [List.length_take, hl]; exact Nat.min_eq_left (Nat.mul_le_mul_right _ hk)
  · rw [List.getElem?_take] at hu
    split at hu
    · exact hx j u hu
    · cases hu

theorem addr_add_zero (a : Addr) : a.add 0 = a := by simp [Addr.add]

theorem Rd.from {w : World} {sz n c : Nat} {a : Option Addr} {xs : List Value} (h : Rd w sz (.slice a n c) n xs) {k : Nat} (hk : k ≤ n) : Rd w sz (sliced a k n c sz) (n - k) (xs.drop (k * sz)) := by
  obtain ⟨a', c', hv, hc, hl, hn, hx⟩ := h
  simp only [Value.slice.injEq] at hv
  obtain ⟨rfl, _, rfl⟩ := hv
  refine ⟨_, _, rfl, by omega, by rw [List.length_drop, hl, Nat.sub_mul], ?_, fun j u hu => ?_⟩
  · intro h0
    split at h0
    · omega
    · have : a = none := by simpa using h0
      have := hn this; omega
  · rw [List.getElem?_drop] at hu
    obtain ⟨ad, rfl, h1⟩ := hx _ u hu
    have hlt : k * sz + j < n * sz := by rw [← hl]; exact (List.getElem?_eq_some_iff.1 hu).1
    have hkn : k < n := by
      rcases Nat.lt_or_ge k n with h | h
      · exact h
      · have := Nat.mul_le_mul_right sz h; omega
    rw [if_neg (by omega)]
    refine ⟨_, rfl, ?_⟩
    rw [Go.Deep.add_add]; exact h1

/-- an empty row just made -/
theorem ownsRow_empty {w : World} {B g : Nat} {e : TypeId} (sz : Nat) (hg : w.heap[g]? = some (.cells #[] e (0, 0))) (hB : B ≤ g) : w.ownsRow B e sz (.slice (some ⟨g, 0, none⟩) 0 0) 0 [] :=
  ⟨by simp, .inr ⟨g, 0, #[], rfl, hB, hg, Nat.le_refl _, by simp [maxLen], by simp, by simp⟩⟩
theorem Fr.of_drewN (S : Nat → Prop) (w : World) (n : Nat) : Fr S w (w.drewN n) := (Fr.refl S w).drewN n

/-- a block's cells known one by one: a slice over them -/
theorem Rd.new {w : World} {g : Nat} {vs : List Value} {t : TypeId} (hg : w.heap[g]? = some (.cells vs.toArray t (0, 0))) (sz n : Nat) (hl : vs.length = n * sz) : Rd w sz (.slice (some ⟨g, 0, none⟩) n n) n vs := by
  refine ⟨_, _, rfl, Nat.le_refl _, hl, (fun e => by cases e), fun j u hu => ⟨_, rfl, ?_⟩⟩
  have : (⟨g, 0, none⟩ : Addr).add j = ⟨g, j, none⟩ := by unfold Addr.add; split <;> simp_all
  rw [this, cell_blk hg]
  simpa using hu

theorem Rd.fr {S : Nat → Prop} {w w' : World} {sz n : Nat} {v : Value} {xs : List Value} (h : Rd w sz v n xs) (hf : Fr S w w') (hS : ∀ a, (∃ c, v = .slice (some a) n c) → ¬ S a.block) : Rd w' sz v n xs := by
  obtain ⟨a, c, rfl, hn, hl, h0, hx⟩ := h
  refine ⟨a, c, rfl, hn, hl, h0, fun j u hu => ?_⟩
  obtain ⟨ad, rfl, hc⟩ := hx j u hu
  refine ⟨ad, rfl, ?_⟩
  have hlt := World.block_lt_of_cell? _ _ hc
  have hb : (ad.add j).block = ad.block := by unfold Addr.add; split <;> rfl
  rw [World.cell?_of_block (w := w) (w' := w') (hf.same _ hlt (by rw [hb]; exact hS ad ⟨c, rfl⟩))]
  exact hc

/-- append of what reads as a row to an own row -/
theorem wpList_append_rd {P : Program} {w w0 : World} {S : Nat → Prop} {ops : Array Oper} {rest : List Oper} {o : Oper} {a : Act} {Q : Exit → Act → World → Prop} (hgd : o.guard = none) (s x : Operand) (t : TypeId)
    (ho : o.op = .call { callee := .builtin .append, args := #[s, x], argTypes := #[t, t] })
    (e : TypeId) (i : TypeInfo) (z : Value) (size bytes : Nat) (ht : P.underlying t = some (.slice e)) (hi : P.info? e = some i) (hz : i.zero = some z)
    (hsize : i.size = size) (hby : i.bytes = bytes) (hzs : z.cells.size = size) (hsz : 0 < size)
    (v : Value) (n : Nat) (xs : List Value) (hs : a.eval s = v) (hown : w.ownsRow w0.heap.size e size v n xs) (hfr : Fr S w0 w)
    (u : Value) (m : Nat) (news : List Value) (hx : a.eval x = u) (hrd : Rd w size u m news) (h1 : ∀ u ∈ news, u.oneCell' = true)
    (h63 : n + m ≤ maxLen) (hbytes : (n + m) * bytes ≤ 140737488355328)
    (h : ∀ v' w', w'.ownsRow w0.heap.size e size v' (n + m) (xs ++ news) → Fr S w0 w' → Fr (fun b => some b = v.ownBlock) w w' → wpList P ops Q rest (a.put o.dst v') w') : wpList P ops Q (o :: rest) a w := by
  obtain ⟨ad, c, rfl, hmc, hl, hnone, hcells⟩ := hrd
  cases ad with
  | none =>
    have hc := hnone rfl
    have hm : m = 0 := by omega
    subst hc hm
    have hnews : news = [] := List.eq_nil_of_length_eq_zero (by simpa using hl)
    subst hnews
    exact wpList_append_own_none hgd s x t ho w0.heap.size e i size ht hi v n xs hs hown hx (h v w (by simpa using hown) hfr (Fr.refl _ _))
  | some ad =>
    exact wpList_append_own w hgd s x t ho w0.heap.size e i z size bytes ht hi hz hsize hby hzs hsz v n xs hs hown ad m c news hx hl
      (fun j u hu => by obtain ⟨ad', he, hc⟩ := hcells j u hu; cases he; exact hc) h1 h63 hbytes hfr.size
      (fun v' w' h2 h3 _ => h v' w' h2 (hfr.grown h3 hown) (Fr.grownBy h3))

/-- x[:k] -/
theorem wpList_slice_to {P : Program} {w : World} {ops : Array Oper} {rest : List Oper} {o : Oper} {a : Act} {Q : Exit → Act → World → Prop} (hgd : o.guard = none) (x hi : Operand) (t : TypeId)
    (ho : o.op = .slice t x none (some hi) none) (e : TypeId) (i : TypeInfo) (ht : P.underlying t = some (.slice e)) (hi' : P.info? e = some i)
    (ad : Option Addr) (n c : Nat) (hx : a.eval x = .slice ad n c) (kk : IntKind) (k : Nat) (hk : a.eval hi = .int kk (k : Int)) (hkc : k ≤ c)
    (h : wpList P ops Q rest (a.put o.dst (.slice ad k c)) w) : wpList P ops Q (o :: rest) a w := by
  have he : P.elem t = e := by simp [Program.elem, ht]
  refine wpList_plain hgd fun K hK => ?_
  have hrun : (Instr.sliceAt t (.slice ad n c) none (some (.int kk (k : Int))) none).run P w = .ok (.slice ad k c) w := by
    rw [run_sliceAt_slice (P := P) (w := w) t _ _ _ _ (by rw [he]; exact ht), run_slice_h (P := P) (w := w) t ad n c (by rw [he]; exact ht) kk k (by omega) (by omega)]
    simp [sizeOf, typeInfo, he, hi', sliced, addr_add_zero, Result.andThen]
  unfold Oper.wp
  simp [execOp, ho, hx, hk, hrun, Result.andThen]
  exact hK _ _ h

/-- x[k:] -/
theorem wpList_slice_from {P : Program} {w : World} {ops : Array Oper} {rest : List Oper} {o : Oper} {a : Act} {Q : Exit → Act → World → Prop} (hgd : o.guard = none) (x lo : Operand) (t : TypeId)
    (ho : o.op = .slice t x (some lo) none none) (e : TypeId) (i : TypeInfo) (sz : Nat) (ht : P.underlying t = some (.slice e)) (hi' : P.info? e = some i) (hsz : i.size = sz)
    (ad : Option Addr) (n c : Nat) (hx : a.eval x = .slice ad n c) (xs : List Value) (hrd : Rd w sz (.slice ad n c) n xs) (kk : IntKind) (k : Nat) (hk : a.eval lo = .int kk (k : Int)) (hkc : k ≤ n)
    (h : ∀ v', Rd w sz v' (n - k) (xs.drop (k * sz)) → wpList P ops Q rest (a.put o.dst v') w) : wpList P ops Q (o :: rest) a w := by
  have he : P.elem t = e := by simp [Program.elem, ht]
  refine wpList_plain hgd fun K hK => ?_
  have hrun : (Instr.sliceAt t (.slice ad n c) (some (.int kk (k : Int))) none none).run P w = .ok (sliced ad k n c sz) w := by
    rw [run_sliceAt_slice (P := P) (w := w) t _ _ _ _ (by rw [he]; exact ht), run_slice_l (P := P) (w := w) t ad n c (by rw [he]; exact ht) kk k (by omega) (by omega)]
    simp [sizeOf, typeInfo, he, hi', hsz, Result.andThen]
  unfold Oper.wp
  simp [execOp, ho, hx, hk, hrun, Result.andThen]
  exact hK _ _ (h _ (hrd.from hkc))

/-- a law at an operation, at a step of a region that draws -/
theorem step_plain {P : Program} {ops : Array Oper} {o : Oper} {a : Act} {w : World} {K : Act → World → Prop} {Q : Exit → Act → World → Prop} {E : Prop} (hgd : o.guard = none) (h : Oper.wp P o a w K Q) :
    if Region.wanted o (yielded ops a.tmps) = true then Oper.wp P o a w K Q else E := by
  rw [if_pos (by simp [Region.wanted, hgd])]; exact h

/-- x[:k] and x[:k:m], as they run -/
theorem run_to {P : Program} (t e : TypeId) (i : TypeInfo) (ht : P.underlying t = some (.slice e)) (hi' : P.info? e = some i) (ad : Option Addr) (n c : Nat) (kk : IntKind) (k : Nat) (hkc : k ≤ c) :
    ∀ w : World, (Instr.slice t (.slice ad n c) none (some (.int kk (k : Int))) none).run P w = .ok (.slice ad k c) w := by
  intro w
  have he : P.elem t = e := by simp [Program.elem, ht]
  rw [run_slice_h (P := P) (w := w) t ad n c (by rw [he]; exact ht) kk k (by omega) (by omega)]
  simp [sizeOf, typeInfo, he, hi', sliced, addr_add_zero, Result.andThen]
theorem run_to3 {P : Program} (t e : TypeId) (i : TypeInfo) (ht : P.underlying t = some (.slice e)) (hi' : P.info? e = some i) (ad : Option Addr) (n c : Nat) (kk km : IntKind) (k m : Nat) (hkm : k ≤ m) (hmc : m ≤ c) :
    ∀ w : World, (Instr.slice t (.slice ad n c) none (some (.int kk (k : Int))) (some (.int km (m : Int)))).run P w = .ok (.slice ad k m) w := by
  intro w
  have he : P.elem t = e := by simp [Program.elem, ht]
  rw [run_slice_hm (P := P) (w := w) t ad n c (by rw [he]; exact ht) kk km k m (by omega) (by omega) (by omega)]
  simp [sizeOf, typeInfo, he, hi', sliced, addr_add_zero, Result.andThen]

/-- x[:k] and x[:k:m], at the operation -/
theorem wp_slice_to {P : Program} {w : World} {o : Oper} {a : Act} {K : Act → World → Prop} {Q : Exit → Act → World → Prop} (x hi : Operand) (t : TypeId)
    (ho : o.op = .slice t x none (some hi) none) (e : TypeId) (i : TypeInfo) (ht : P.underlying t = some (.slice e)) (hi' : P.info? e = some i)
    (ad : Option Addr) (n c : Nat) (hx : a.eval x = .slice ad n c) (kk : IntKind) (k : Nat) (hk : a.eval hi = .int kk (k : Int)) (hkc : k ≤ c)
    (h : K (a.put o.dst (.slice ad k c)) w) : o.wp P a w K Q := by
  have he : P.elem t = e := by simp [Program.elem, ht]
  have hrun : (Instr.sliceAt t (.slice ad n c) none (some (.int kk (k : Int))) none).run P w = .ok (.slice ad k c) w := by
    rw [run_sliceAt_slice (P := P) (w := w) t _ _ _ _ (by rw [he]; exact ht), run_slice_h (P := P) (w := w) t ad n c (by rw [he]; exact ht) kk k (by omega) (by omega)]
    simp [sizeOf, typeInfo, he, hi', sliced, addr_add_zero, Result.andThen]
  unfold Oper.wp
  simp [execOp, ho, hx, hk, hrun, Result.andThen]
  exact h
theorem wp_slice_to3 {P : Program} {w : World} {o : Oper} {a : Act} {K : Act → World → Prop} {Q : Exit → Act → World → Prop} (x hi mx : Operand) (t : TypeId)
    (ho : o.op = .slice t x none (some hi) (some mx)) (e : TypeId) (i : TypeInfo) (ht : P.underlying t = some (.slice e)) (hi' : P.info? e = some i)
    (ad : Option Addr) (n c : Nat) (hx : a.eval x = .slice ad n c) (kk km : IntKind) (k m : Nat) (hk : a.eval hi = .int kk (k : Int)) (hm : a.eval mx = .int km (m : Int)) (hkm : k ≤ m) (hmc : m ≤ c)
    (h : K (a.put o.dst (.slice ad k m)) w) : o.wp P a w K Q := by
  have he : P.elem t = e := by simp [Program.elem, ht]
  have hrun : (Instr.sliceAt t (.slice ad n c) none (some (.int kk (k : Int))) (some (.int km (m : Int)))).run P w = .ok (.slice ad k m) w := by
    rw [run_sliceAt_slice (P := P) (w := w) t _ _ _ _ (by rw [he]; exact ht), run_slice_hm (P := P) (w := w) t ad n c (by rw [he]; exact ht) kk km k m (by omega) (by omega) (by omega)]
    simp [sizeOf, typeInfo, he, hi', sliced, addr_add_zero, Result.andThen]
  unfold Oper.wp
  simp [execOp, ho, hx, hk, hm, hrun, Result.andThen]
  exact h

/-- append of what reads as a row to an own row, at the operation -/
theorem wp_append_rd {P : Program} {w w0 : World} {S : Nat → Prop} {o : Oper} {a : Act} {K : Act → World → Prop} {Q : Exit → Act → World → Prop} (s x : Operand) (t : TypeId)
    (ho : o.op = .call { callee := .builtin .append, args := #[s, x], argTypes := #[t, t] })
    (e : TypeId) (i : TypeInfo) (z : Value) (size bytes : Nat) (ht : P.underlying t = some (.slice e)) (hi : P.info? e = some i) (hz : i.zero = some z)
    (hsize : i.size = size) (hby : i.bytes = bytes) (hzs : z.cells.size = size) (hsz : 0 < size)
    (v : Value) (n : Nat) (xs : List Value) (hs : a.eval s = v) (hown : w.ownsRow w0.heap.size e size v n xs) (hfr : Fr S w0 w)
    (u : Value) (m : Nat) (news : List Value) (hx : a.eval x = u) (hrd : Rd w size u m news) (h1 : ∀ u ∈ news, u.oneCell' = true)
    (h63 : n + m ≤ maxLen) (hbytes : (n + m) * bytes ≤ 140737488355328)
    (h : ∀ v' w', w'.ownsRow w0.heap.size e size v' (n + m) (xs ++ news) → Fr S w0 w' → Fr (fun b => some b = v.ownBlock) w w' → K (a.put o.dst v') w') : o.wp P a w K Q := by
  obtain ⟨ad, c, rfl, hmc, hl, hnone, hcells⟩ := hrd
  cases ad with
  | none =>
    have hc := hnone rfl
    have hm : m = 0 := by omega
    subst hc hm
    have hnews : news = [] := List.eq_nil_of_length_eq_zero (by simpa using hl)
    subst hnews
    have hrun := run_append_owned_none (P := P) (w := w) w0.heap.size t o.type e i size ht hi v n xs hown
    unfold Oper.wp
    simp [execOp, ho, resolve, invoke, builtin, hs, hx, hrun, Result.andThen]
    exact h v w (by simpa using hown) hfr (Fr.refl _ _)
  | some ad =>
    exact wp_append_own w s x t ho w0.heap.size e i z size bytes ht hi hz hsize hby hzs hsz v n xs hs hown ad m c news hx hl
      (fun j u hu => by obtain ⟨ad', he, hc⟩ := hcells j u hu; cases he; exact hc) h1 h63 hbytes hfr.size
      (fun v' w' h2 h3 _ => h v' w' h2 (hfr.grown h3 hown) (Fr.grownBy h3))

/-- nothing is appended -/
theorem run_append_zero {P : Program} (w : World) (t ty e : TypeId) (i : TypeInfo) (ht : P.underlying t = some (.slice e)) (hi : P.info? e = some i) (a b : Option Addr) (n c c' : Nat) (hn : n ≤ c) :
    (Builtin.append_ #[t, t] ty #[.slice a n c, .slice b 0 c']).run P w = .ok (.slice a n c) w := by
  cases a <;> cases b <;> simp [Builtin.append_, run_underlying ht, sizeOf, typeInfo, hi, Builtin.lenOf, Builtin.firstCells, storeCells, hn, loadCells, loadCellsFrom]

/-- append onto a full slice: the old one, or a new row -/
theorem run_append_full {P : Program} (w : World) (t ty e : TypeId) (i : TypeInfo) (z : Value) (size bytes : Nat) (ht : P.underlying t = some (.slice e)) (hi : P.info? e = some i) (hz : i.zero = some z)
    (hsize : i.size = size) (hby : i.bytes = bytes) (hzs : z.cells.size = size) (hsz : 0 < size)
    (a : Option Addr) (n : Nat) (xs : List Value) (hd : Rd w size (.slice a n n) n xs) (u : Value) (m : Nat) (news : List Value) (hrd : Rd w size u m news) (h63 : n + m ≤ maxLen) (hbytes : (n + m) * bytes ≤ 140737488355328) :
    ∃ v' w', (Builtin.append_ #[t, t] ty #[.slice a n n, u]).run P w = .ok v' w' ∧ Rd w' size v' (n + m) (xs ++ news) ∧ Fr (fun _ => False) w w' := by
  subst hsize hby
  obtain ⟨b, c, rfl, hmc, hl, hnone, hcells⟩ := hrd
  have hd' := hd
  obtain ⟨a', c', hv, _, hl', hn', hx⟩ := hd
  simp only [Value.slice.injEq] at hv
  obtain ⟨rfl, _, rfl⟩ := hv
  have h47 : n + m ≤ 9223372036854775807 := by simp only [maxLen] at h63; omega
  by_cases hm : m = 0
  · subst hm
    have hnews : news = [] := List.eq_nil_of_length_eq_zero (by simpa using hl)
    subst hnews
    exact ⟨_, w, run_append_zero w t ty e i ht hi a b n n c (Nat.le_refl _), by simpa using hd', Fr.refl _ _⟩
  · cases b with
    | none => have := hnone rfl; omega
    | some b =>
      have hnews : ∀ j v, news[j]? = some v → w.cell? (b.add j) = some v := fun j v hj => by obtain ⟨ad, he, hc⟩ := hcells j v hj; cases he; exact hc
      cases a with
      | none =>
        have h0 := hn' rfl
        subst h0
        have hxs : xs = [] := List.eq_nil_of_length_eq_zero (by simpa using hl')
        subst hxs
        have hr := run_append_nil (P := P) w t ty e i z ht hi hz b m c news hl hnews (by omega) (by omega) (by have hb := hbytes; simp only [Nat.zero_add] at hb; omega)
        have hge := grownCap_ge w m 0 e
        refine ⟨_, _, hr, ⟨some ⟨w.heap.size, 0, none⟩, grownCap w m 0 e, by rw [Nat.zero_add], by simpa using hge, by simpa using hl, (fun e => by cases e), fun j v hj => ⟨_, rfl, ?_⟩⟩, ⟨rfl, rfl, rfl, by simp, fun k hk _ => Below.heap_alloc _ _ k hk⟩⟩
        have hadd : (⟨w.heap.size, 0, none⟩ : Addr).add j = ⟨w.heap.size, j, none⟩ := by unfold Addr.add; split <;> simp_all
        rw [hadd, cell_blk (w := w.drew.alloc _) (b := w.heap.size) (by rw [heap_alloc]; exact if_pos rfl)]
        simp only [List.nil_append] at hj
        rw [Array.getElem?_append_left (by have := (List.getElem?_eq_some_iff.1 hj).1; simpa using this)]
        simpa using hj
      | some a =>
        have holds : ∀ j v, xs[j]? = some v → w.cell? (a.add j) = some v := fun j v hj => by obtain ⟨ad, he, hc⟩ := hx j v hj; cases he; exact hc
        have hr := run_append_grow (P := P) w t ty e i z ht hi hz a n n xs hl' holds b m c news hl hnews (by omega) (by omega) (growslice_fits (by omega) hbytes)
        have hge := grownCap_ge w (n + m) n e
        refine ⟨_, _, hr, ⟨_, _, rfl, hge, by rw [List.length_append, hl, hl', Nat.add_mul], (fun e => by cases e), fun j v hj => ⟨_, rfl, ?_⟩⟩, ⟨rfl, rfl, rfl, by simp, fun k hk _ => Below.heap_alloc _ _ k hk⟩⟩
        have hadd : (⟨w.heap.size, 0, none⟩ : Addr).add j = ⟨w.heap.size, j, none⟩ := by unfold Addr.add; split <;> simp_all
        rw [hadd, cell_blk (w := w.drew.alloc _) (b := w.heap.size) (by rw [heap_alloc]; exact if_pos rfl)]
        rw [Array.getElem?_append_left (by have := (List.getElem?_eq_some_iff.1 hj).1; simpa using this)]
        simpa using hj

theorem wp_append_full {P : Program} {w : World} {o : Oper} {act : Act} {K : Act → World → Prop} {Q : Exit → Act → World → Prop} (s x : Operand) (t : TypeId)
    (ho : o.op = .call { callee := .builtin .append, args := #[s, x], argTypes := #[t, t] })
    (e : TypeId) (i : TypeInfo) (z : Value) (size bytes : Nat) (ht : P.underlying t = some (.slice e)) (hi : P.info? e = some i) (hz : i.zero = some z)
    (hsize : i.size = size) (hby : i.bytes = bytes) (hzs : z.cells.size = size) (hsz : 0 < size)
    (a : Option Addr) (n : Nat) (xs : List Value) (hs : act.eval s = .slice a n n) (hd : Rd w size (.slice a n n) n xs) (u : Value) (m : Nat) (news : List Value) (hx : act.eval x = u) (hrd : Rd w size u m news) (h63 : n + m ≤ maxLen) (hbytes : (n + m) * bytes ≤ 140737488355328)
    (h : ∀ a' c' w', Rd w' size (.slice a' (n + m) c') (n + m) (xs ++ news) → Fr (fun _ => False) w w' → K (act.put o.dst (.slice a' (n + m) c')) w') : o.wp P act w K Q := by
  obtain ⟨v', w', hr, h1, h2⟩ := run_append_full (P := P) w t o.type e i z size bytes ht hi hz hsize hby hzs hsz a n xs hd u m news hrd h63 hbytes
  unfold Oper.wp
  simp [execOp, ho, resolve, invoke, builtin, hs, hx, hr, Result.andThen]
  obtain ⟨a', c', rfl, _⟩ := id h1
  exact h a' c' w' h1 h2

theorem wp_append_zero {P : Program} {w : World} {o : Oper} {act : Act} {K : Act → World → Prop} {Q : Exit → Act → World → Prop} (s x : Operand) (t : TypeId)
    (ho : o.op = .call { callee := .builtin .append, args := #[s, x], argTypes := #[t, t] })
    (e : TypeId) (i : TypeInfo) (size : Nat) (ht : P.underlying t = some (.slice e)) (hi : P.info? e = some i)
    (v : Value) (n : Nat) (xs : List Value) (hs : act.eval s = v) (hd : Rd w size v n xs) (b : Option Addr) (c' : Nat) (hx : act.eval x = .slice b 0 c')
    (h : K (act.put o.dst v) w) : o.wp P act w K Q := by
  obtain ⟨a, c, rfl, hn, _⟩ := hd
  have hr := run_append_zero (P := P) w t o.type e i ht hi a b n c c' hn
  unfold Oper.wp
  simp [execOp, ho, resolve, invoke, builtin, hs, hx, hr, Result.andThen]
  exact h

/-- a list that is two lists in two ways -/
theorem mid_cases {α : Type} {xs ys xs' ys' : List α} {n r : α} (h : xs ++ n :: ys = xs' ++ r :: ys') :
    (∃ zs, ys = zs ++ r :: ys' ∧ xs' = xs ++ n :: zs) ∨ (xs' = xs ∧ r = n ∧ ys' = ys) ∨ (∃ bs, xs = xs' ++ r :: bs ∧ ys' = bs ++ n :: ys) := by
  rcases List.append_eq_append_iff.1 h with ⟨zs, h1, h2⟩ | ⟨bs, h1, h2⟩
  · cases zs with
    | nil => simp at h1 h2; exact .inr (.inl ⟨h1, h2.1.symm, h2.2.symm⟩)
    | cons a zs => simp at h2; obtain ⟨rfl, h2⟩ := h2; exact .inl ⟨zs, h2, h1⟩
  · cases bs with
    | nil => simp at h1 h2; exact .inr (.inl ⟨h1.symm, h2.1, h2.2⟩)
    | cons b bs => simp at h2; obtain ⟨rfl, h2⟩ := h2; exact .inr (.inr ⟨bs, h1, h2⟩)
end Go.Proofs.Ytcnnibhipjkgiaa
