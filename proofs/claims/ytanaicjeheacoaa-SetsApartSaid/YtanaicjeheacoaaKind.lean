/-
  Spans in sets: keys and what the memory holds.
-/
import Derived.Test.YtanaicjeheacoaaSearch
import Derived.Test.YtanaicjeheacoaaMaps
import Derived.ChangeKeysEq
namespace Go.Proofs.Ytanaicjeheacoaa
open Go.RowKit Go.Deep

/-- which set: class, without pointers, full, swept -/
abbrev Kd := Int × Bool × Bool × Bool
def kenc (k : Kd) : Value := .agg #[.int .i64 k.1, .bool k.2.1, .bool k.2.2.1, .bool k.2.2.2]

theorem keyLaw_kind : KeyLaw Try.prog 56 kenc where
  now := ⟨_, Try.underlying56, fun a b => .inl rfl⟩
  check := fun empty z w => by
    have h1 : ∀ z W, (Instr.checkKey empty 9999 3 (.int .i64 z)).run Try.prog W = .ok () W := fun z W => by unfold Instr.checkKey; simp [run_underlying Try.underlying3]
    have h2 : ∀ z W, (Instr.checkKey empty 9999 4 (.bool z)).run Try.prog W = .ok () W := fun z W => by unfold Instr.checkKey; simp [run_underlying Try.underlying4]
    have p0 : ∀ W, (part 3 #[.int .i64 z.1, .bool z.2.1, .bool z.2.2.1, .bool z.2.2.2] 0).run Try.prog W = .ok (.int .i64 z.1) W := fun W => run_part_plain W (by simp [Program.plainKey, Try.underlying3]) rfl
    have p1 : ∀ W, (part 4 #[.int .i64 z.1, .bool z.2.1, .bool z.2.2.1, .bool z.2.2.2] 1).run Try.prog W = .ok (.bool z.2.1) W := fun W => run_part_plain W (by simp [Program.plainKey, Try.underlying4]) rfl
    have p2 : ∀ W, (part 4 #[.int .i64 z.1, .bool z.2.1, .bool z.2.2.1, .bool z.2.2.2] 2).run Try.prog W = .ok (.bool z.2.2.1) W := fun W => run_part_plain W (by simp [Program.plainKey, Try.underlying4]) rfl
    have p3 : ∀ W, (part 4 #[.int .i64 z.1, .bool z.2.1, .bool z.2.2.1, .bool z.2.2.2] 3).run Try.prog W = .ok (.bool z.2.2.2) W := fun W => run_part_plain W (by simp [Program.plainKey, Try.underlying4]) rfl
    have h0 : Instr.checkKey empty 10000 56 (kenc z) = Instr.checkKey empty (9999 + 1) 56 (kenc z) := rfl
    rw [h0]
    unfold Instr.checkKey
    simp only [Sem.run_bind, run_underlying Try.underlying56, Result.andThen, kenc]
    rw [← Array.forIn_toList]
    simp only [List.forIn_cons, List.forIn_nil]
    simp [p0, p1, p2, p3, h1, h2, Result.andThen]
  eq := fun a b w => by
    have e1 : ∀ x y W, (Op.equalIn 9999 3 (.int .i64 x) (.int .i64 y)).run Try.prog W = .ok (x == y) W := fun x y W => by unfold Op.equalIn; simp [run_underlying Try.underlying3]
    have e2 : ∀ x y W, (Op.equalIn 9999 4 (.bool x) (.bool y)).run Try.prog W = .ok (x == y) W := fun x y W => by unfold Op.equalIn; simp [run_underlying Try.underlying4]
    have p0 : ∀ (x : Int) (y z u : Bool) W, (part 3 #[.int .i64 x, .bool y, .bool z, .bool u] 0).run Try.prog W = .ok (.int .i64 x) W := fun x y z u W => run_part_plain W (by simp [Program.plainKey, Try.underlying3]) rfl
    have p1 : ∀ (x : Int) (y z u : Bool) W, (part 4 #[.int .i64 x, .bool y, .bool z, .bool u] 1).run Try.prog W = .ok (.bool y) W := fun x y z u W => run_part_plain W (by simp [Program.plainKey, Try.underlying4]) rfl
    have p2 : ∀ (x : Int) (y z u : Bool) W, (part 4 #[.int .i64 x, .bool y, .bool z, .bool u] 2).run Try.prog W = .ok (.bool z) W := fun x y z u W => run_part_plain W (by simp [Program.plainKey, Try.underlying4]) rfl
    have p3 : ∀ (x : Int) (y z u : Bool) W, (part 4 #[.int .i64 x, .bool y, .bool z, .bool u] 3).run Try.prog W = .ok (.bool u) W := fun x y z u W => run_part_plain W (by simp [Program.plainKey, Try.underlying4]) rfl
    have hs : Try.prog.stoodInHeld 56 = false := by decide +kernel
    show (Op.equalIn (9999 + 1) _ _ _).run _ _ = _
    unfold Op.equalIn
    simp only [Sem.run_bind, run_underlying Try.underlying56, Result.andThen, kenc, run_program, hs]
    rw [← Array.forIn_toList]
    simp only [List.forIn_cons, List.forIn_nil]
    obtain ⟨a1, a2, a3, a4⟩ := a
    obtain ⟨b1, b2, b3, b4⟩ := b
    by_cases h1 : a1 = b1
    · cases a2 <;> cases b2 <;> cases a3 <;> cases b3 <;> cases a4 <;> cases b4 <;> simp [p0, p1, p2, p3, e1, e2, Result.andThen, h1]
    · simp [p0, e1, Result.andThen, h1]
  same := fun z => by simp [Instr.sameBits, kenc]

/-- a span: where its record lies, and what is in it -/
structure It where
  b : Nat
  id : Int
  base : Int
  kd : Kd

def It.cells (x : It) : Array Value := #[.int .i64 x.id, .int .u64 x.base, .int .i64 x.kd.1, .bool x.kd.2.1, .bool x.kd.2.2.1, .bool x.kd.2.2.2]
def It.ptr (x : It) : Value := .pointer (some ⟨x.b, 0, none⟩)
def ienc (z : Int) : Value := .int .i64 z
def benc (z : Int) : Value := .int .u64 z
theorem keyLaw_i : KeyLaw Try.prog 3 ienc := keyLaw_int Try.underlying3
theorem keyLaw_b : KeyLaw Try.prog 26 benc := keyLaw_int Try.underlying26

/-- the row of a kind: its spans by rising base -/
structure RowOf (L : List It) (k : Kd) (r : List It) : Prop where
  ord : r.Pairwise (fun x y => x.base < y.base)
  mem : ∀ x, x ∈ r ↔ x ∈ L ∧ x.kd = k

/-- the rows of the sets that begin in block s hold the spans L -/
structure Core (w : World) (s m1 m2 m3 : Nat) (i3 : List (Kd × Value)) (L : List It) : Prop where
  root : w.heap[s]? = some (.cells #[.map (some m1), .map (some m2), .map (some m3)] 53 (0, 0))
  sets : MapIs kenc w m3 i3
  node : ∀ x ∈ L, w.heap[x.b]? = some (.cells x.cells 58 (0, 0))
  ndb : (L.map (·.b)).Nodup
  ndB : (L.map (·.base)).Nodup
  row : ∀ k v, (k, v) ∈ i3 → ∃ r, RowOf L k r ∧ w.ownsRow 0 54 1 v r.length (r.map It.ptr)
  all : ∀ x ∈ L, x.kd ∈ i3.map (·.1)
  sepS : ∀ x ∈ L, x.b ≠ s
  sepR : ∀ k v g, (k, v) ∈ i3 → v.ownBlock = some g → g ≠ s ∧ ∀ x ∈ L, g ≠ x.b
  sepK : ∀ k v k' v' g, (k, v) ∈ i3 → (k', v') ∈ i3 → v.ownBlock = some g → v'.ownBlock = some g → k = k'

/-- the sets that begin in block s hold the spans L -/
structure Sets (w : World) (s m1 m2 m3 : Nat) (i1 i2 : List (Int × Value)) (i3 : List (Kd × Value)) (L : List It) : Prop where
  core : Core w s m1 m2 m3 i3 L
  ids : MapIs ienc w m1 i1
  bases : MapIs benc w m2 i2
  idsL : ∀ z v, (z, v) ∈ i1 ↔ ∃ x ∈ L, x.id = z ∧ v = x.ptr
  basesL : ∀ z v, (z, v) ∈ i2 ↔ ∃ x ∈ L, x.base = z ∧ v = x.ptr
  ndI : (L.map (·.id)).Nodup
  sepM : m1 ≠ m2 ∧ m1 ≠ m3 ∧ m2 ≠ m3

/-- the blocks that the sets may write -/
def sfp (s m1 m2 m3 : Nat) (i3 : List (Kd × Value)) (L : List It) (b : Nat) : Prop :=
  b = s ∨ b = m1 ∨ b = m2 ∨ b = m3 ∨ (∃ x ∈ L, b = x.b) ∨ ∃ k v, (k, v) ∈ i3 ∧ v.ownBlock = some b

theorem MapIs.ne {κ : Type} {enc : κ → Value} {w : World} {b b' : Nat} {m : List (κ × Value)} {c : Array Value} {t : TypeId} {f : Nat × Nat} (h : MapIs enc w b m) (hc : w.heap[b']? = some (.cells c t f)) : b' ≠ b := by
  rintro rfl
  obtain ⟨es, cl, h1, _⟩ := h
  rw [h1] at hc; simp at hc

theorem ownsRow_blk {w : World} {B T sz n : Nat} {v : Value} {xs : List Value} (h : w.ownsRow B T sz v n xs) {g : Nat} (hg : v.ownBlock = some g) : ∃ cur, w.heap[g]? = some (.cells cur T (0, 0)) := by
  rcases h with ⟨_, ⟨rfl, _⟩ | ⟨g', cap, cur, rfl, _, hb, _⟩⟩
  · simp [Value.ownBlock] at hg
  · simp only [Value.ownBlock, Option.some.injEq] at hg
    subst hg; exact ⟨cur, hb⟩

theorem cell_through {S : Nat → Prop} {w w' : World} {b i : Nat} {v : Value} (hf : Fr S w w') (h : w.cell? ⟨b, i, none⟩ = some v) (hs : ¬ S b) : w'.cell? ⟨b, i, none⟩ = some v := by
  have hlt := World.block_lt_of_cell? _ _ h
  rw [World.cell?_of_block (w := w) (hf.same b hlt hs)]; exact h

theorem MapIs.frk {κ : Type} {enc : κ → Value} {w w' : World} {b : Nat} {m : List (κ × Value)} (h : MapIs enc w b m) {S : Nat → Prop} (hf : Fr S w w') (hs : ¬ S b) : MapIs enc w' b m := by
  obtain ⟨es, c, h1, h2⟩ := h
  exact ⟨es, c, hf.at h1 hs, h2⟩
theorem MapIs.drewN {κ : Type} {enc : κ → Value} {w : World} {b : Nat} {m : List (κ × Value)} (h : MapIs enc w b m) (n : Nat) : MapIs enc (w.drewN n) b m := h

theorem ownsRow_keep {w w' : World} {B T sz n : Nat} {v : Value} {xs : List Value} {S : Nat → Prop} (h : w.ownsRow B T sz v n xs) (hf : Fr S w w') (hs : ∀ g, v.ownBlock = some g → ¬ S g) : w'.ownsRow B T sz v n xs := by
  rcases h with ⟨hl, h | ⟨g, cap, cur, rfl, hg, hb, h⟩⟩
  · exact ⟨hl, .inl h⟩
  · exact ⟨hl, .inr ⟨g, cap, cur, rfl, hg, hf.at hb (hs g rfl), h⟩⟩

/-- the rows are kept where nothing of theirs turns -/
theorem Core.keep {w w' : World} {s m1 m2 m3 : Nat} {i3 : List (Kd × Value)} {L : List It} (h : Core w s m1 m2 m3 i3 L) {S : Nat → Prop} (hf : Fr S w w') (hs : ¬ S s) (h3 : ¬ S m3) (hx : ∀ x ∈ L, ¬ S x.b)
    (hr : ∀ k v g, (k, v) ∈ i3 → v.ownBlock = some g → ¬ S g) : Core w' s m1 m2 m3 i3 L :=
  ⟨hf.at h.root hs, h.sets.frk hf h3, fun x hm => hf.at (h.node x hm) (hx x hm), h.ndb, h.ndB,
    fun k v hm => by obtain ⟨r, h1, h2⟩ := h.row k v hm; exact ⟨r, h1, ownsRow_keep h2 hf (fun g hg => hr k v g hm hg)⟩, h.all, h.sepS, h.sepR, h.sepK⟩

/-- another map turns: the rows are kept -/
theorem Core.keep_map {w w' : World} {s m1 m2 m3 mx : Nat} {κ : Type} {enc : κ → Value} {ix : List (κ × Value)} {i3 : List (Kd × Value)} {L : List It} (h : Core w s m1 m2 m3 i3 L) (hm : MapIs enc w mx ix) (hne : mx ≠ m3) (hf : Fr (fun b => b = mx) w w') : Core w' s m1 m2 m3 i3 L :=
  h.keep hf (hm.ne h.root) (fun e => hne e.symm) (fun x hx => hm.ne (h.node x hx)) (fun k v g hm' hg => by
    obtain ⟨r, _, ho⟩ := h.row k v hm'
    obtain ⟨cur, hc⟩ := ownsRow_blk ho hg
    exact hm.ne hc)

theorem Core.quiet {w w' : World} {s m1 m2 m3 : Nat} {i3 : List (Kd × Value)} {L : List It} (h : Core w s m1 m2 m3 i3 L) (hf : Fr (fun _ => False) w w') : Core w' s m1 m2 m3 i3 L :=
  h.keep hf (fun x => x) (fun x => x) (fun _ _ x => x) (fun _ _ _ _ _ x => x)
end Go.Proofs.Ytanaicjeheacoaa
