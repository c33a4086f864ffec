/-
  Part 11 of what the statement leans on: Search, Kind, Place, Count, Least, Eyes, Turn, Entry, Remove, Take, Put, Shift.
-/
import Derived.Test.YtnjaaagiindclaaGreatDoorPk1
import Derived.Deep.LoopGhost
import Derived.ChangeKeysEq
import Derived.BigQuiet
import Derived.Deep.QuietTactic
import Derived.BigRegion
import Derived.Deep.CutBlock
import Derived.Deep.DeepCutAuto
import Derived.Deep.RegionHeld3
import Derived.Deep.RegionWith
import Derived.Laws.CopyRow
import Derived.Laws.IdiomCopy
/-
  sort.Search over a closure with two captured values.
-/
namespace Go.Proofs.YtnjaaagiindclaaGreatDoor
open Go.RowKit Go.Deep

theorem half_eq (i j : Nat) : (((i + j) / 2 : Nat) : Int) = ((i : Int) + (j : Int)) / 2 := by omega

set_option maxHeartbeats 1000000 in
theorem search_any {g : FuncId} {c1 c2 : Value} {n : Nat} {p : Nat → Bool} (w : World) (eg : ∀ args w, (callFunc g args).run Tryz.prog w = .ok (.enter g args) w) (hn : n ≤ 1000000000)
    (hf : ∀ m i : Nat, i < n → Calls Tryz.prog g #[.int .i64 i, c1, c2] (w.drewN m) fun e w' => e = .returned (.bool (p i)) ∧ ∃ q, w' = w.drewN q)
    (mono : ∀ a b, a ≤ b → b < n → p a = true → p b = true) :
    Calls Tryz.prog 147 #[.int .i64 n, .func (.func g) #[] #[c1, c2]] w fun e w' =>
      ∃ (r q : Nat), e = .returned (.int .i64 r) ∧ w' = w.drewN q ∧ r ≤ n ∧ (∀ i, i < r → p i = false) ∧ (∀ i, r ≤ i → i < n → p i = true) := by
  replace hf := Lib.hid hf
  replace mono := Lib.hid mono
  go_enter Tryz.func147, Tryz.ntmps147
  go_wp2_with fail
  go_loopg [5, 6] n (fun k i j wr => ∃ (a b m : Nat), i = .int .i64 a ∧ j = .int .i64 b ∧ a + k = b ∧ wr = w.drewN m ∧ Hid (b ≤ n ∧ (∀ i, i < a → p i = false) ∧ (∀ i, b ≤ i → i < n → p i = true)))
  case atStart => exact ⟨0, n, 0, rfl, rfl, by simp, rfl, Lib.hid ⟨Nat.le_refl _, by simp, fun i h1 h2 => by omega⟩⟩
  case round =>
    obtain ⟨a, b, m, rfl, rfl, hk, rfl, H⟩ := hrel
    have hb := H.out.1
    by_cases hab : a < b
    · have hh : (a + b) / 2 < n := by omega
      have hc := hf.out m ((a + b) / 2) hh
      rw [half_eq] at hc
      have hc := Lib.hid hc
      have hk' := Lib.hid hk
      have hM := Lib.hid mono.out
      clear hk
      go_wp2_with (refine hc.out.mono ?_; rintro e w2 ⟨rfl, q, rfl⟩)
      all_goals rename_i hp
      · go_roundg (b - ((a + b) / 2 + 1))
        case measure => have := hk'.out; omega
        case rel =>
          have := hk'.out
          refine ⟨(a + b) / 2 + 1, b, q, by go_num, rfl, by omega, rfl, Lib.hid ⟨hb, fun i h1 => ?_, H.out.2.2⟩⟩
          cases hpi : p i with
          | false => rfl
          | true =>
            have := hM.out i ((a + b) / 2) (by omega) hh hpi
            rw [this] at hp; simp at hp
      · go_roundg ((a + b) / 2 - a)
        case measure => have := hk'.out; omega
        case rel =>
          have := hk'.out
          refine ⟨a, (a + b) / 2, q, rfl, by rw [half_eq], by omega, rfl, Lib.hid ⟨by omega, H.out.2.1, fun i h1 h2 => ?_⟩⟩
          exact hM.out _ i h1 h2 (by simpa using hp)
    · have hab' : a = b := by omega
      subst hab'
      clear hk
      go_wp2
      go_ret
      exact ⟨a, m, rfl, rfl, hb, H.out.2.1, H.out.2.2⟩
end Go.Proofs.YtnjaaagiindclaaGreatDoor

/-
  Spans in sets: keys and what the memory holds.
-/
namespace Go.Proofs.YtnjaaagiindclaaGreatDoor
open Go.RowKit Go.Deep

/-- which set: class, without pointers, full, swept -/
abbrev Kd := Int × Bool × Bool × Bool
def kenc (k : Kd) : Value := .agg #[.int .i64 k.1, .bool k.2.1, .bool k.2.2.1, .bool k.2.2.2]

theorem keyLaw_kind : KeyLaw Tryz.prog 165 kenc where
  now := ⟨_, Tryz.underlying165, fun a b => .inl rfl⟩
  check := fun empty z w => by
    have h1 : ∀ z W, (Instr.checkKey empty 9999 3 (.int .i64 z)).run Tryz.prog W = .ok () W := fun z W => by unfold Instr.checkKey; simp [run_underlying Tryz.underlying3]
    have h2 : ∀ z W, (Instr.checkKey empty 9999 4 (.bool z)).run Tryz.prog W = .ok () W := fun z W => by unfold Instr.checkKey; simp [run_underlying Tryz.underlying4]
    have p0 : ∀ W, (part 3 #[.int .i64 z.1, .bool z.2.1, .bool z.2.2.1, .bool z.2.2.2] 0).run Tryz.prog W = .ok (.int .i64 z.1) W := fun W => run_part_plain W (by simp [Program.plainKey, Tryz.underlying3]) rfl
    have p1 : ∀ W, (part 4 #[.int .i64 z.1, .bool z.2.1, .bool z.2.2.1, .bool z.2.2.2] 1).run Tryz.prog W = .ok (.bool z.2.1) W := fun W => run_part_plain W (by simp [Program.plainKey, Tryz.underlying4]) rfl
    have p2 : ∀ W, (part 4 #[.int .i64 z.1, .bool z.2.1, .bool z.2.2.1, .bool z.2.2.2] 2).run Tryz.prog W = .ok (.bool z.2.2.1) W := fun W => run_part_plain W (by simp [Program.plainKey, Tryz.underlying4]) rfl
    have p3 : ∀ W, (part 4 #[.int .i64 z.1, .bool z.2.1, .bool z.2.2.1, .bool z.2.2.2] 3).run Tryz.prog W = .ok (.bool z.2.2.2) W := fun W => run_part_plain W (by simp [Program.plainKey, Tryz.underlying4]) rfl
    have h0 : Instr.checkKey empty 10000 165 (kenc z) = Instr.checkKey empty (9999 + 1) 165 (kenc z) := rfl
    rw [h0]
    unfold Instr.checkKey
    simp only [Sem.run_bind, run_underlying Tryz.underlying165, Result.andThen, kenc]
    rw [← Array.forIn_toList]
    simp only [List.forIn_cons, List.forIn_nil]
    simp [p0, p1, p2, p3, h1, h2, Result.andThen]
  eq := fun a b w => by
    have e1 : ∀ x y W, (Op.equalIn 9999 3 (.int .i64 x) (.int .i64 y)).run Tryz.prog W = .ok (x == y) W := fun x y W => by unfold Op.equalIn; simp [run_underlying Tryz.underlying3]
    have e2 : ∀ x y W, (Op.equalIn 9999 4 (.bool x) (.bool y)).run Tryz.prog W = .ok (x == y) W := fun x y W => by unfold Op.equalIn; simp [run_underlying Tryz.underlying4]
    have p0 : ∀ (x : Int) (y z u : Bool) W, (part 3 #[.int .i64 x, .bool y, .bool z, .bool u] 0).run Tryz.prog W = .ok (.int .i64 x) W := fun x y z u W => run_part_plain W (by simp [Program.plainKey, Tryz.underlying3]) rfl
    have p1 : ∀ (x : Int) (y z u : Bool) W, (part 4 #[.int .i64 x, .bool y, .bool z, .bool u] 1).run Tryz.prog W = .ok (.bool y) W := fun x y z u W => run_part_plain W (by simp [Program.plainKey, Tryz.underlying4]) rfl
    have p2 : ∀ (x : Int) (y z u : Bool) W, (part 4 #[.int .i64 x, .bool y, .bool z, .bool u] 2).run Tryz.prog W = .ok (.bool z) W := fun x y z u W => run_part_plain W (by simp [Program.plainKey, Tryz.underlying4]) rfl
    have p3 : ∀ (x : Int) (y z u : Bool) W, (part 4 #[.int .i64 x, .bool y, .bool z, .bool u] 3).run Tryz.prog W = .ok (.bool u) W := fun x y z u W => run_part_plain W (by simp [Program.plainKey, Tryz.underlying4]) rfl
    have hs : Tryz.prog.stoodInHeld 165 = false := by decide +kernel
    show (Op.equalIn (9999 + 1) _ _ _).run _ _ = _
    unfold Op.equalIn
    simp only [Sem.run_bind, run_underlying Tryz.underlying165, Result.andThen, kenc, run_program, hs]
    rw [← Array.forIn_toList]
    simp only [List.forIn_cons, List.forIn_nil]
    obtain ⟨a1, a2, a3, a4⟩ := a
    obtain ⟨b1, b2, b3, b4⟩ := b
    by_cases h1 : a1 = b1
    · cases a2 <;> cases b2 <;> cases a3 <;> cases b3 <;> cases a4 <;> cases b4 <;> simp [p0, p1, p2, p3, e1, e2, Result.andThen, h1]
    · simp [p0, e1, Result.andThen, h1]
  same := fun z => by simp [Instr.sameBits, kenc]

/-- a span: where its record lies, and what is in it -/
structure It where
  b : Nat
  id : Int
  base : Int
  kd : Kd

def It.cells (x : It) : Array Value := #[.int .i64 x.id, .int .u64 x.base, .int .i64 x.kd.1, .bool x.kd.2.1, .bool x.kd.2.2.1, .bool x.kd.2.2.2]
def It.ptr (x : It) : Value := .pointer (some ⟨x.b, 0, none⟩)
def ienc (z : Int) : Value := .int .i64 z
def benc (z : Int) : Value := .int .u64 z
theorem keyLaw_i : KeyLaw Tryz.prog 3 ienc := keyLaw_int Tryz.underlying3
theorem keyLaw_b : KeyLaw Tryz.prog 22 benc := keyLaw_int Tryz.underlying22

/-- the row of a kind: its spans by rising base -/
structure RowOf (L : List It) (k : Kd) (r : List It) : Prop where
  ord : r.Pairwise (fun x y => x.base < y.base)
  mem : ∀ x, x ∈ r ↔ x ∈ L ∧ x.kd = k

/-- the rows of the sets that begin in block s hold the spans L -/
structure Core (w : World) (s m1 m2 m3 : Nat) (i3 : List (Kd × Value)) (L : List It) : Prop where
  root : w.heap[s]? = some (.cells #[.map (some m1), .map (some m2), .map (some m3)] 163 (0, 0))
  sets : MapIs kenc w m3 i3
  node : ∀ x ∈ L, w.heap[x.b]? = some (.cells x.cells 167 (0, 0))
  ndb : (L.map (·.b)).Nodup
  ndB : (L.map (·.base)).Nodup
  row : ∀ k v, (k, v) ∈ i3 → ∃ r, RowOf L k r ∧ w.ownsRow 0 158 1 v r.length (r.map It.ptr)
  all : ∀ x ∈ L, x.kd ∈ i3.map (·.1)
  sepS : ∀ x ∈ L, x.b ≠ s
  sepR : ∀ k v g, (k, v) ∈ i3 → v.ownBlock = some g → g ≠ s ∧ ∀ x ∈ L, g ≠ x.b
  sepK : ∀ k v k' v' g, (k, v) ∈ i3 → (k', v') ∈ i3 → v.ownBlock = some g → v'.ownBlock = some g → k = k'

/-- the sets that begin in block s hold the spans L -/
structure Sets (w : World) (s m1 m2 m3 : Nat) (i1 i2 : List (Int × Value)) (i3 : List (Kd × Value)) (L : List It) : Prop where
  core : Core w s m1 m2 m3 i3 L
  ids : MapIs ienc w m1 i1
  bases : MapIs benc w m2 i2
  idsL : ∀ z v, (z, v) ∈ i1 ↔ ∃ x ∈ L, x.id = z ∧ v = x.ptr
  basesL : ∀ z v, (z, v) ∈ i2 ↔ ∃ x ∈ L, x.base = z ∧ v = x.ptr
  ndI : (L.map (·.id)).Nodup
  sepM : m1 ≠ m2 ∧ m1 ≠ m3 ∧ m2 ≠ m3

/-- the blocks that the sets may write -/
def sfp (s m1 m2 m3 : Nat) (i3 : List (Kd × Value)) (L : List It) (b : Nat) : Prop :=
  b = s ∨ b = m1 ∨ b = m2 ∨ b = m3 ∨ (∃ x ∈ L, b = x.b) ∨ ∃ k v, (k, v) ∈ i3 ∧ v.ownBlock = some b

theorem MapIs.ne {κ : Type} {enc : κ → Value} {w : World} {b b' : Nat} {m : List (κ × Value)} {c : Array Value} {t : TypeId} {f : Nat × Nat} (h : MapIs enc w b m) (hc : w.heap[b']? = some (.cells c t f)) : b' ≠ b := by
  rintro rfl
  obtain ⟨es, cl, h1, _⟩ := h
  rw [h1] at hc; simp at hc

theorem ownsRow_blk {w : World} {B T sz n : Nat} {v : Value} {xs : List Value} (h : w.ownsRow B T sz v n xs) {g : Nat} (hg : v.ownBlock = some g) : ∃ cur, w.heap[g]? = some (.cells cur T (0, 0)) := by
  rcases h with ⟨_, ⟨rfl, _⟩ | ⟨g', cap, cur, rfl, _, hb, _⟩⟩
  · simp [Value.ownBlock] at hg
  · simp only [Value.ownBlock, Option.some.injEq] at hg
    subst hg; exact ⟨cur, hb⟩

theorem cell_through {S : Nat → Prop} {w w' : World} {b i : Nat} {v : Value} (hf : Fr S w w') (h : w.cell? ⟨b, i, none⟩ = some v) (hs : ¬ S b) : w'.cell? ⟨b, i, none⟩ = some v := by
  have hlt := World.block_lt_of_cell? _ _ h
  rw [World.cell?_of_block (w := w) (hf.same b hlt hs)]; exact h

theorem MapIs.frk {κ : Type} {enc : κ → Value} {w w' : World} {b : Nat} {m : List (κ × Value)} (h : MapIs enc w b m) {S : Nat → Prop} (hf : Fr S w w') (hs : ¬ S b) : MapIs enc w' b m := by
  obtain ⟨es, c, h1, h2⟩ := h
  exact ⟨es, c, hf.at h1 hs, h2⟩
theorem MapIs.drewN {κ : Type} {enc : κ → Value} {w : World} {b : Nat} {m : List (κ × Value)} (h : MapIs enc w b m) (n : Nat) : MapIs enc (w.drewN n) b m := h

theorem ownsRow_keep {w w' : World} {B T sz n : Nat} {v : Value} {xs : List Value} {S : Nat → Prop} (h : w.ownsRow B T sz v n xs) (hf : Fr S w w') (hs : ∀ g, v.ownBlock = some g → ¬ S g) : w'.ownsRow B T sz v n xs := by
  rcases h with ⟨hl, h | ⟨g, cap, cur, rfl, hg, hb, h⟩⟩
  · exact ⟨hl, .inl h⟩
  · exact ⟨hl, .inr ⟨g, cap, cur, rfl, hg, hf.at hb (hs g rfl), h⟩⟩

/-- the rows are kept where nothing of theirs turns -/
theorem Core.keep {w w' : World} {s m1 m2 m3 : Nat} {i3 : List (Kd × Value)} {L : List It} (h : Core w s m1 m2 m3 i3 L) {S : Nat → Prop} (hf : Fr S w w') (hs : ¬ S s) (h3 : ¬ S m3) (hx : ∀ x ∈ L, ¬ S x.b)
    (hr : ∀ k v g, (k, v) ∈ i3 → v.ownBlock = some g → ¬ S g) : Core w' s m1 m2 m3 i3 L :=
  ⟨hf.at h.root hs, h.sets.frk hf h3, fun x hm => hf.at (h.node x hm) (hx x hm), h.ndb, h.ndB,
    fun k v hm => by obtain ⟨r, h1, h2⟩ := h.row k v hm; exact ⟨r, h1, ownsRow_keep h2 hf (fun g hg => hr k v g hm hg)⟩, h.all, h.sepS, h.sepR, h.sepK⟩

/-- another map turns: the rows are kept -/
theorem Core.keep_map {w w' : World} {s m1 m2 m3 mx : Nat} {κ : Type} {enc : κ → Value} {ix : List (κ × Value)} {i3 : List (Kd × Value)} {L : List It} (h : Core w s m1 m2 m3 i3 L) (hm : MapIs enc w mx ix) (hne : mx ≠ m3) (hf : Fr (fun b => b = mx) w w') : Core w' s m1 m2 m3 i3 L :=
  h.keep hf (hm.ne h.root) (fun e => hne e.symm) (fun x hx => hm.ne (h.node x hx)) (fun k v g hm' hg => by
    obtain ⟨r, _, ho⟩ := h.row k v hm'
    obtain ⟨cur, hc⟩ := ownsRow_blk ho hg
    exact hm.ne hc)

theorem Core.quiet {w w' : World} {s m1 m2 m3 : Nat} {i3 : List (Kd × Value)} {L : List It} (h : Core w s m1 m2 m3 i3 L) (hf : Fr (fun _ => False) w w') : Core w' s m1 m2 m3 i3 L :=
  h.keep hf (fun x => x) (fun x => x) (fun _ _ x => x) (fun _ _ _ _ _ x => x)
end Go.Proofs.YtnjaaagiindclaaGreatDoor

/-
  Where a span stands in its row.
-/
namespace Go.Proofs.YtnjaaagiindclaaGreatDoor
open Go.RowKit Go.Deep

theorem Core.look {w : World} {s m1 m2 m3 : Nat} {i3 : List (Kd × Value)} {L : List It} (h : Core w s m1 m2 m3 i3 L) (k : Kd) :
    ∃ r a c, (mapGet i3 k).getD (.slice none 0 0) = .slice a r.length c ∧ RowOf L k r ∧ w.ownsRow 0 158 1 (.slice a r.length c) r.length (r.map It.ptr) := by
  cases hg : mapGet i3 k with
  | none =>
    refine ⟨[], none, 0, rfl, ⟨List.Pairwise.nil, fun x => ?_⟩, World.ownsRow_nil _ _ _ _⟩
    constructor
    · intro hx; simp at hx
    · rintro ⟨hx, rfl⟩
      exact absurd (h.all x hx) (mapGet_none.1 hg)
  | some v =>
    have hm := (mapGet_some h.sets.nodup).1 hg
    obtain ⟨r, hr, ho⟩ := h.row k v hm
    obtain ⟨a, c, rfl⟩ := ownsRow_form ho
    exact ⟨r, a, c, rfl, hr, ho⟩

/-- how many of a row stand below a base -/
def pos (r : List It) (z : Int) : Nat := (r.takeWhile (fun x => decide (x.base < z))).length

theorem pos_le (r : List It) (z : Int) : pos r z ≤ r.length := (List.takeWhile_sublist _).length_le

theorem pos_of {r : List It} {z : Int} {j : Nat} (hj : j ≤ r.length) (h1 : ∀ i x, i < j → r[i]? = some x → x.base < z) (h2 : ∀ i x, j ≤ i → r[i]? = some x → z ≤ x.base) : pos r z = j := by
  unfold pos
  induction r generalizing j with
  | nil => simp at hj; subst hj; rfl
  | cons x r ih =>
    cases j with
    | zero =>
      have := h2 0 x (Nat.le_refl _) rfl
      rw [List.takeWhile_cons_of_neg (by simp; omega)]; rfl
    | succ j =>
      have := h1 0 x (by omega) rfl
      rw [List.takeWhile_cons_of_pos (by simpa using this), List.length_cons, ih (j := j) (by simpa using hj) (fun i y hi hy => h1 (i + 1) y (by omega) (by simpa using hy)) (fun i y hi hy => h2 (i + 1) y (by omega) (by simpa using hy))]

set_option maxHeartbeats 1000000 in
theorem place_at (l z : Nat) (i : Nat) (r : List It) (a : Option Addr) (c : Nat) (bs : Int) (x : It) (w : World) (hl : w.cell? ⟨l, 0, none⟩ = some (.slice a r.length c)) (hz : w.cell? ⟨z, 0, none⟩ = some (.int .u64 bs))
    (hrd : Rd w 1 (.slice a r.length c) r.length (r.map It.ptr)) (hi : r[i]? = some x) (hb : w.cell? ⟨x.b, 1, none⟩ = some (.int .u64 x.base)) :
    Calls Tryz.prog 262 #[.int .i64 i, .pointer (some ⟨l, 0, none⟩), .pointer (some ⟨z, 0, none⟩)] w fun e w' => e = .returned (.bool (decide (bs ≤ x.base))) ∧ ∃ q, w' = w.drewN q := by
  obtain ⟨a', c', hv, _, _, _, hx⟩ := hrd
  simp only [Value.slice.injEq] at hv
  obtain ⟨rfl, _, rfl⟩ := hv
  obtain ⟨ad, rfl, hc⟩ := hx i x.ptr (by rw [List.getElem?_map, hi]; rfl)
  have hlt : i < r.length := (List.getElem?_eq_some_iff.1 hi).1
  unfold It.ptr at hc
  clear hx hi
  go_enter Tryz.func262, Tryz.ntmps262
  go_wp2_with fail
  go_quiet (fail)
  go_wp2
  go_ret
  exact ⟨rfl, _, rfl⟩

theorem zero_row (w : World) : (zeroValue 288).run Tryz.prog w = .ok (.slice none 0 0) w := by
  have h : (Tryz.prog.info? 288).map (·.zero) = some (some (.slice none 0 0)) := by kernel_rfl
  cases hi : Tryz.prog.info? 288 with
  | none => rw [hi] at h; simp at h
  | some i =>
    rw [hi] at h
    simp only [Option.map_some, Option.some.injEq] at h
    simp [zeroValue, run_typeInfo w hi, h, Sem.run_bind, Result.andThen]

theorem run_row {w : World} {b : Nat} {m : List (Kd × Value)} {k : Kd} {v : Value} (h : MapIs kenc w b m) (hv : (mapGet m k).getD (.slice none 0 0) = v) :
    (Instr.lookup 161 (.map (some b)) (kenc k) false).run Tryz.prog w = .ok v w := by
  have := run_map_lookup keyLaw_kind Tryz.underlying161 h k (.slice none 0 0) (zero_row w) false
  simp only [hv, Bool.false_eq_true, if_false] at this
  exact this

theorem boxed (w : World) (k1 : Int) (k2 k3 k4 : Bool) (bs : Int) : Fr (fun _ => False) w ((w.alloc (.cells #[.int .i64 k1, .bool k2, .bool k3, .bool k4] 165)).alloc (.cells #[.int .u64 bs] 22)) ∧
    ((w.alloc (.cells #[.int .i64 k1, .bool k2, .bool k3, .bool k4] 165)).alloc (.cells #[.int .u64 bs] 22)).cell? ⟨w.heap.size, 0, none⟩ = some (.int .i64 k1) ∧
    ((w.alloc (.cells #[.int .i64 k1, .bool k2, .bool k3, .bool k4] 165)).alloc (.cells #[.int .u64 bs] 22)).cell? ⟨w.heap.size, 1, none⟩ = some (.bool k2) ∧
    ((w.alloc (.cells #[.int .i64 k1, .bool k2, .bool k3, .bool k4] 165)).alloc (.cells #[.int .u64 bs] 22)).cell? ⟨w.heap.size, 2, none⟩ = some (.bool k3) ∧
    ((w.alloc (.cells #[.int .i64 k1, .bool k2, .bool k3, .bool k4] 165)).alloc (.cells #[.int .u64 bs] 22)).cell? ⟨w.heap.size, 3, none⟩ = some (.bool k4) ∧
    ((w.alloc (.cells #[.int .i64 k1, .bool k2, .bool k3, .bool k4] 165)).alloc (.cells #[.int .u64 bs] 22)).cell? ⟨w.heap.size + 1, 0, none⟩ = some (.int .u64 bs) ∧
    ((w.alloc (.cells #[.int .i64 k1, .bool k2, .bool k3, .bool k4] 165)).alloc (.cells #[.int .u64 bs] 22)).heap.size = w.heap.size + 2 := by
  obtain ⟨h0, h1, h2, h3⟩ := blk4 (w := (w.alloc (.cells #[.int .i64 k1, .bool k2, .bool k3, .bool k4] 165)).alloc (.cells #[.int .u64 bs] 22)) (b := w.heap.size) (by rw [heap_alloc, if_neg (by simp), heap_alloc, if_pos rfl])
  exact ⟨((Fr.refl _ w).alloc _).alloc _, h0, h1, h2, h3, cell_blk (c := #[.int .u64 bs]) (by rw [heap_alloc, if_pos (by simp)]) 0, by simp⟩


/-- is the base of the i-th of a row not below z? -/
def notBelow (r : List It) (z : Int) (i : Nat) : Bool := match r[i]? with
  | some x => decide (z ≤ x.base)
  | none => true

theorem searched {s m1 m2 m3 n : Nat} {i3 : List (Kd × Value)} {L : List It} {w wx : World} (fr : Fr (fun _ => False) w wx) (h : Core w s m1 m2 m3 i3 L) {k : Kd} {bs : Int} {r : List It} {a : Option Addr} {c : Nat}
    (hr : RowOf L k r) (ho : w.ownsRow 0 158 1 (.slice a n c) r.length (r.map It.ptr)) (zc : wx.cell? ⟨w.heap.size + 1, 0, none⟩ = some (.int .u64 bs)) (hsz : wx.heap.size = w.heap.size + 2) (hn : r.length ≤ 1000000) :
    Calls Tryz.prog 147 #[.int .i64 r.length, .func (.func 262) #[] #[.pointer (some ⟨w.heap.size + 2, 0, none⟩), .pointer (some ⟨w.heap.size + 1, 0, none⟩)]]
      (wx.alloc (.cells #[.slice a n c] 288)).drew fun e w' => ∃ (j q : Nat), e = .returned (.int .i64 j) ∧ w' = (wx.alloc (.cells #[.slice a n c] 288)).drew.drewN q ∧ j ≤ r.length ∧ (∀ i, i < j → notBelow r bs i = false) ∧ (∀ i, j ≤ i → i < r.length → notBelow r bs i = true) := by
  obtain ⟨a', c', hv⟩ := ownsRow_form ho
  simp only [Value.slice.injEq] at hv
  obtain ⟨rfl, rfl, rfl⟩ := hv
  have fz : Fr (fun _ => False) wx (wx.alloc (.cells #[.slice a r.length c] 288)).drew := ((Fr.refl _ wx).alloc _).drew
  have ff := fr.trans fz (fun _ _ x => x)
  refine search_any _ (fun args w => by simp [callFunc, Tryz.func262, Tryz.f262]) (by omega) (fun m i hi => ?_) (fun i j hij hj hi => ?_)
  · obtain ⟨x, hx⟩ : ∃ x, r[i]? = some x := ⟨_, List.getElem?_eq_getElem hi⟩
    have hm : x ∈ L := ((hr.mem x).1 (List.mem_of_getElem? hx)).1
    have := place_at (w.heap.size + 2) (w.heap.size + 1) i r a c bs x ((wx.alloc (.cells #[.slice a r.length c] 288)).drew.drewN m)
      (cell_blk (w := (wx.alloc (.cells #[.slice a r.length c] 288))) (c := #[.slice a r.length c]) (by rw [heap_alloc, if_pos hsz.symm]) 0) (cell_through (fz.drewN m) zc (fun x => x)) ((ownsRow_rd ho).fr (S := fun _ => False) (ff.drewN m) (fun _ _ x => x)) hx
      (cell_blk (w := (wx.alloc (.cells #[.slice a r.length c] 288))) (c := x.cells) (ff.at (h.node x hm) (fun x => x)) 1)
    refine this.mono fun e w' ⟨he, q, hq⟩ => ⟨?_, m + q, by rw [hq, World.drewN_drewN]⟩
    rw [he]; simp [notBelow, hx]
  · obtain ⟨x, hx⟩ : ∃ x, r[i]? = some x := ⟨_, List.getElem?_eq_getElem (by omega)⟩
    obtain ⟨y, hy⟩ : ∃ y, r[j]? = some y := ⟨_, List.getElem?_eq_getElem hj⟩
    simp only [notBelow, hx, hy, decide_eq_true_eq] at hi ⊢
    by_cases he : i = j
    · subst he; rw [hx] at hy; cases hy; exact hi
    · have h1 := List.pairwise_iff_getElem.1 hr.ord i j (by omega) hj (by omega)
      rw [(List.getElem?_eq_some_iff.1 hx).2, (List.getElem?_eq_some_iff.1 hy).2] at h1
      omega

set_option maxHeartbeats 2000000 in
theorem place_any {s m1 m2 m3 : Nat} {i3 : List (Kd × Value)} {L : List It} (w : World) (h : Core w s m1 m2 m3 i3 L) (k : Kd) (bs : Int) (r : List It) (a : Option Addr) (c : Nat)
    (hv : (mapGet i3 k).getD (.slice none 0 0) = .slice a r.length c) (hr : RowOf L k r) (ho : w.ownsRow 0 158 1 (.slice a r.length c) r.length (r.map It.ptr)) (hn : r.length ≤ 1000000) :
    Calls Tryz.prog 234 #[.pointer (some ⟨s, 0, none⟩), kenc k, .int .u64 bs] w fun e w' => e = .returned (.int .i64 (pos r bs)) ∧ Fr (fun _ => False) w w' := by
  obtain ⟨k1, k2, k3, k4⟩ := k
  have fb := Lib.hid (boxed w k1 k2 k3 k4 bs)
  have H := Lib.hid (And.intro h (And.intro hr (And.intro ho hv)))
  have hs := lt_blk h.root
  clear h hr ho hv
  unfold kenc at *
  go_enter Tryz.func234, Tryz.ntmps234
  go_wp2_with fail
  obtain ⟨fr, kc0, kc1, kc2, kc3, zc, hsz⟩ := fb.out
  generalize (w.alloc (.cells #[.int .i64 k1, .bool k2, .bool k3, .bool k4] 165)).alloc (.cells #[.int .u64 bs] 22) = wx at *
  clear fb
  have hkb : w.heap.size < wx.heap.size := by omega
  have hzb : w.heap.size + 1 < wx.heap.size := by omega
  have hsx : s < wx.heap.size := by omega
  have c3 : wx.cell? ⟨s, 2, none⟩ = some (.map (some m3)) := (blk3 (fr.at H.out.1.root (fun x => x))).2.2
  have fz : Fr (fun _ => False) wx (wx.alloc (.cells #[.slice none 0 0] 288)).drew := ((Fr.refl _ wx).alloc _).drew
  have look := run_row (k := (k1, k2, k3, k4)) ((H.out.1.sets.frk fr (fun x => x)).frk fz (fun x => x)) H.out.2.2.2
  have d0 : (wx.alloc (.cells #[.slice none 0 0] 288)).drew.cell? ⟨s, 2, none⟩ = some (.map (some m3)) := cell_through fz c3 (fun x => x)
  have d1 : (wx.alloc (.cells #[.slice none 0 0] 288)).drew.cell? ⟨w.heap.size, 0, none⟩ = some (.int .i64 k1) := cell_through fz kc0 (fun x => x)
  have d2 : (wx.alloc (.cells #[.slice none 0 0] 288)).drew.cell? ⟨w.heap.size, 1, none⟩ = some (.bool k2) := cell_through fz kc1 (fun x => x)
  have d3 : (wx.alloc (.cells #[.slice none 0 0] 288)).drew.cell? ⟨w.heap.size, 2, none⟩ = some (.bool k3) := cell_through fz kc2 (fun x => x)
  have d4 : (wx.alloc (.cells #[.slice none 0 0] 288)).drew.cell? ⟨w.heap.size, 3, none⟩ = some (.bool k4) := cell_through fz kc3 (fun x => x)
  have look1 := run_row (w := wx.drew) (k := (k1, k2, k3, k4)) (H.out.1.sets.frk fr.drew (fun x => x)) H.out.2.2.2
  unfold kenc at look look1
  simp only at look look1
  have FZ := Lib.hid fz
  clear fz
  have hsz := Lib.hid hsz
  have FR := Lib.hid fr
  clear fr
  have hse := Lib.hid (searched (n := r.length) FR.out H.out.1 H.out.2.1 H.out.2.2.1 zc hsz.out hn)
  clear hkb hzb
  go_wp2_with fail
  go_region
  all_goals (
    go_wp2_with (go_at_call 147; refine hse.out.mono ?_; rintro e w5 ⟨j, q, rfl, rfl, hj, hp1, hp2⟩)
    go_ret
    exact ⟨by rw [pos_of hj (fun i x hi hx => by have := hp1 i hi; simpa [notBelow, hx] using this) (fun i x hi hx => by have := hp2 i hi (List.getElem?_eq_some_iff.1 hx).1; simpa [notBelow, hx] using this)]; rfl, (FR.out.trans ((Fr.refl (fun _ => False) wx).alloc _) (fun _ _ x => x)).drewN (1 + q)⟩)
end Go.Proofs.YtnjaaagiindclaaGreatDoor

/-
  How many spans are swept, or not.
-/
namespace Go.Proofs.YtnjaaagiindclaaGreatDoor
open Go.RowKit Go.Deep

/-- those of some kinds, swept or not -/
def cnt (L : List It) (b : Bool) (D : List Kd) : Nat := (L.filter (fun x => decide (x.kd ∈ D) && (x.kd.2.2.2 == b))).length

theorem nodup_of {α β : Type} {f : α → β} {L : List α} (h : (L.map f).Nodup) : L.Nodup := by
  rw [List.Nodup, List.pairwise_map] at h
  exact h.imp (fun hxy e => hxy (by rw [e]))

theorem row_len {L : List It} {k : Kd} {r : List It} (h : RowOf L k r) (hL : (L.map (·.b)).Nodup) : r.length = (L.filter (fun x => decide (x.kd = k))).length := by
  have hLn : L.Nodup := nodup_of hL
  have hr : r.Nodup := h.ord.imp (fun {x y} hxy e => by subst e; omega)
  refine List.Perm.length_eq ((List.perm_ext_iff_of_nodup hr (hLn.sublist List.filter_sublist)).2 fun x => ?_)
  rw [h.mem]; simp

theorem cnt_nil (L : List It) (b : Bool) : cnt L b [] = 0 := by
  unfold cnt; rw [List.filter_eq_nil_iff.2 (fun x _ => by simp)]; rfl

theorem cnt_cons {L : List It} {b : Bool} {D : List Kd} {k : Kd} (hk : k ∉ D) : cnt L b (k :: D) = cnt L b D + (if k.2.2.2 = b then (L.filter (fun x => decide (x.kd = k))).length else 0) := by
  unfold cnt
  induction L with
  | nil => simp
  | cons x L ih =>
    by_cases hx : x.kd = k
    · have hn : x.kd ∉ D := by rw [hx]; exact hk
      by_cases hb : k.2.2.2 = b
      · simp only [hb, if_true] at ih ⊢
        rw [List.filter_cons_of_pos (by simp [hx, hb]), List.filter_cons_of_neg (by simp [hn]), List.filter_cons_of_pos (by simp [hx])]
        simp only [List.length_cons, ih]; omega
      · simp only [hb, if_false] at ih ⊢
        rw [List.filter_cons_of_neg (by simp [hx, hb]), List.filter_cons_of_neg (by simp [hn])]
        exact ih
    · by_cases hD : x.kd ∈ D ∧ x.kd.2.2.2 = b
      · rw [List.filter_cons_of_pos (by simp [hD.1, hD.2]), List.filter_cons_of_pos (by simp [hD.1, hD.2]), List.filter_cons_of_neg (by simpa using hx)]
        simp only [List.length_cons, ih]; omega
      · have h1 : ¬ ((decide (x.kd ∈ k :: D) && (x.kd.2.2.2 == b)) = true) := by simp only [Bool.and_eq_true, decide_eq_true_eq, List.mem_cons, beq_iff_eq]; exact fun ⟨h1, h2⟩ => h1.elim hx (fun h1 => hD ⟨h1, h2⟩)
        have h2 : ¬ ((decide (x.kd ∈ D) && (x.kd.2.2.2 == b)) = true) := by simpa using fun a b => hD ⟨a, b⟩
        rw [List.filter_cons_of_neg (p := fun x : It => decide (x.kd ∈ k :: D) && (x.kd.2.2.2 == b)) h1, List.filter_cons_of_neg (p := fun x : It => decide (x.kd ∈ D) && (x.kd.2.2.2 == b)) h2, List.filter_cons_of_neg (by simpa using hx)]
        exact ih

/-- how many there are -/
def num (L : List It) (b : Bool) : Nat := (L.filter (fun x => x.kd.2.2.2 == b)).length

theorem cnt_all {L : List It} {b : Bool} {D : List Kd} (h : ∀ x ∈ L, x.kd ∈ D) : cnt L b D = num L b := by
  unfold cnt num
  congr 1
  refine List.filter_congr fun x hx => ?_
  simp [h x hx]

theorem cnt_le (L : List It) (b : Bool) (D : List Kd) : cnt L b D ≤ L.length := List.length_filter_le _ _

theorem nodup_le {α : Type} [DecidableEq α] {D K : List α} (hD : D.Nodup) (hK : K.Nodup) (hs : ∀ p ∈ D, p ∈ K) : D.length ≤ K.length := by
  have h : D.Perm (K.filter (fun x => decide (x ∈ D))) := by
    rw [List.perm_ext_iff_of_nodup hD (hK.sublist List.filter_sublist)]
    intro a
    simp only [List.mem_filter, decide_eq_true_eq]
    exact ⟨fun ha => ⟨hs a ha, ha⟩, fun ha => ha.2⟩
  rw [h.length_eq]
  exact List.length_filter_le _ _

/-- where a walk over the kinds stands -/
structure Went (w : World) (s m1 m2 m3 it : Nat) (i3 : List (Kd × Value)) (L : List It) (w0 : World) (D : List Kd) (k : Nat) : Prop where
  iter : Iter kenc w it m3 i3 D
  nd : D.Nodup
  sub : ∀ p ∈ D, p ∈ i3.map (·.1)
  len : D.length + k = i3.length
  fr : Fr (fun _ => False) w0 w

theorem Went.step {w w' : World} {s m1 m2 m3 it : Nat} {i3 : List (Kd × Value)} {L : List It} {w0 : World} {D : List Kd} {k : Nat} {p : Kd × Value} (h : Went w s m1 m2 m3 it i3 L w0 D k) (hit : w0.heap.size ≤ it) (hp : p ∈ i3) (hn : p.1 ∉ D)
    (hi : Iter kenc w' it m3 i3 (p.1 :: D)) (hf : Fr (fun b => b = it) w w') : Went w' s m1 m2 m3 it i3 L w0 (p.1 :: D) (k - 1) ∧ 1 ≤ k := by
  have nd := List.nodup_cons.2 ⟨hn, h.nd⟩
  have sub : ∀ q ∈ p.1 :: D, q ∈ i3.map (·.1) := by
    intro q hq
    rcases List.mem_cons.1 hq with rfl | hq
    · exact List.mem_map.2 ⟨p, hp, rfl⟩
    · exact h.sub q hq
  have hl := nodup_le nd h.iter.map.nodup sub
  have := h.len
  simp only [List.length_cons, List.length_map] at hl
  exact ⟨⟨hi, nd, sub, by simp only [List.length_cons]; omega, h.fr.trans hf (fun b hb he => by omega)⟩, by omega⟩

theorem Went.fr' {w w' : World} {s m1 m2 m3 it : Nat} {i3 : List (Kd × Value)} {L : List It} {w0 : World} {D : List Kd} {k : Nat} (h : Went w s m1 m2 m3 it i3 L w0 D k) (hf : Fr (fun _ => False) w w') : Went w' s m1 m2 m3 it i3 L w0 D k :=
  ⟨h.iter.fr hf (fun x => x) (fun x => x), h.nd, h.sub, h.len, h.fr.trans hf (fun _ _ x => x)⟩

set_option maxRecDepth 100000 in
set_option maxHeartbeats 4000000 in
theorem count_any {s m1 m2 m3 : Nat} {i3 : List (Kd × Value)} {L : List It} (w : World) (h : Core w s m1 m2 m3 i3 L) (b : Bool) (hL : L.length ≤ 1000000) :
    Calls Tryz.prog 129 #[.pointer (some ⟨s, 0, none⟩), .bool b] w fun e w' => e = .returned (.int .i64 (num L b)) ∧ Fr (fun _ => False) w w' := by
  have c3 := (blk3 h.root).2.2
  have hlt := h.sets.lt
  have hm := Lib.hid h.sets
  have H := Lib.hid h
  clear h
  go_enter Tryz.func129, Tryz.ntmps129
  go_wp2_with (refine wpList_iter_new (by rfl) Tryz.underlying161 _ (by rfl) hm.out (by rfl) ?_; intro oo hit; go_simp)
  have hne : w.heap.size ≠ m3 := by omega
  have hlt := Lib.hid hlt
  go_loopg [5] i3.length (fun k n wr => ∃ (c : Nat) (D : List Kd), n = .int .i64 c ∧ Hid (c = cnt L b D ∧ Went wr s m1 m2 m3 w.heap.size i3 L w D k))
  case atStart => exact ⟨0, [], rfl, Lib.hid ⟨(cnt_nil L b).symm, hit, by simp, by simp, by simp, (Fr.refl _ w).alloc oo⟩⟩
  case round =>
    obtain ⟨cc, D, rfl, hD⟩ := hrel
    clear hit
    rcases run_iter_next (P := Tryz.prog) hD.out.2.iter hne 0 with ⟨hall, hr⟩ | ⟨⟨⟨pk1, pk2, pk3, pk4⟩, pv⟩, hp, hpd, wn, hr, hk1, hk2, hk3⟩
    · have hc : cc = num L b := by
        rw [hD.out.1]
        exact cnt_all (fun x hx => by obtain ⟨p, hp, he⟩ := List.mem_map.1 (H.out.all x hx); rw [← he]; exact hall p hp)
      subst hc
      have F := Lib.hid hD.out.2.fr
      clear hall hD
      go_wp2_with (refine wpList_next_run (by rfl) _ (by rfl) (by rfl) hr ?_; clear hr)
      go_ret
      exact ⟨rfl, F.out⟩
    · obtain ⟨r, hro, how⟩ := H.out.row _ _ hp
      obtain ⟨ra, rc, rfl⟩ := ownsRow_form how
      have hst := Lib.hid (hD.out.2.step (Nat.le_refl _) hp hpd hk1 hk2)
      have hcn := cnt_cons (L := L) (b := b) hpd
      rw [← row_len hro H.out.ndb] at hcn
      have hcl := cnt_le L b ((pk1, pk2, pk3, pk4) :: D)
      simp only at hcn
      have hrl : r.length ≤ 1000000 := Nat.le_trans (by rw [row_len hro H.out.ndb]; exact List.length_filter_le _ _) hL
      have HC := Lib.hid hcn
      clear hp hpd hk1 hk2 hro how hcn
      simp only [kenc] at hr hk3
      by_cases hb : pk4 = b
      · subst hb
        have hcl2 : cc ≤ 1000000 := by rw [hD.out.1]; exact Nat.le_trans (cnt_le _ _ _) hL
        go_wp2_with (first | (refine wpList_next_run (by rfl) _ (by rfl) (by rfl) hr ?_; clear hr) | (refine wpList_entry (by rfl) _ (by rfl) (by rfl) hk3 ?_; clear hk3))
        go_roundg (gk - 1)
        case measure => have := hst.out.2; omega
        case rel =>
          exact ⟨cc + r.length, (pk1, pk2, pk3, pk4) :: D, by go_num, Lib.hid ⟨by rw [HC.out, hD.out.1]; simp, hst.out.1.fr' ((Fr.refl _ wn).alloc _)⟩⟩
      · have hb2 : (pk4 == b) = false := by simpa using hb
        go_wp2_with (first | (refine wpList_next_run (by rfl) _ (by rfl) (by rfl) hr ?_; clear hr) | (refine wpList_entry (by rfl) _ (by rfl) (by rfl) hk3 ?_; clear hk3))
        go_roundg (gk - 1)
        case measure => have := hst.out.2; omega
        case rel =>
          exact ⟨cc, (pk1, pk2, pk3, pk4) :: D, rfl, Lib.hid ⟨by rw [HC.out, hD.out.1, if_neg hb]; simp, hst.out.1.fr' ((Fr.refl _ wn).alloc _)⟩⟩
end Go.Proofs.YtnjaaagiindclaaGreatDoor

/-
  The least span that is not swept.
-/
namespace Go.Proofs.YtnjaaagiindclaaGreatDoor
open Go.RowKit Go.Deep

/-- the best so far, of some kinds -/
def Best (L : List It) (D : List Kd) : Option It → Prop
  | none => ∀ x ∈ L, x.kd ∈ D → x.kd.2.2.2 = true
  | some y => y ∈ L ∧ y.kd.2.2.2 = false ∧ ∀ x ∈ L, x.kd ∈ D → x.kd.2.2.2 = false → y.base ≤ x.base

def lv (o : Option It) : Option Addr := o.map (fun y => ⟨y.b, 0, none⟩)

theorem Best.skip {L : List It} {D : List Kd} {o : Option It} {k : Kd} (h : Best L D o) (hk : ∀ x ∈ L, x.kd = k → x.kd.2.2.2 = false → ∃ y, o = some y ∧ y.base ≤ x.base) : Best L (k :: D) o := by
  cases o with
  | none =>
    intro x hx hD
    rcases List.mem_cons.1 hD with hD | hD
    · cases hs : x.kd.2.2.2 with
      | true => rfl
      | false => obtain ⟨y, hy, _⟩ := hk x hx hD hs; simp at hy
    · exact h x hx hD
  | some y =>
    refine ⟨h.1, h.2.1, fun x hx hD hs => ?_⟩
    rcases List.mem_cons.1 hD with hD | hD
    · obtain ⟨y', hy, h1⟩ := hk x hx hD hs
      cases hy; exact h1
    · exact h.2.2 x hx hD hs

theorem Best.take {L : List It} {D : List Kd} {o : Option It} {k : Kd} {z : It} (h : Best L D o) (hz : z ∈ L) (hzs : z.kd.2.2.2 = false) (hk : ∀ x ∈ L, x.kd = k → z.base ≤ x.base) (ho : ∀ y, o = some y → z.base < y.base) : Best L (k :: D) (some z) := by
  refine ⟨hz, hzs, fun x hx hD hs => ?_⟩
  rcases List.mem_cons.1 hD with hD | hD
  · exact hk x hx hD
  · cases o with
    | none => have := h x hx hD; rw [hs] at this; simp at this
    | some y => have := h.2.2 x hx hD hs; have := ho y rfl; omega

/-- what Least answers -/
def Leasts (L : List It) (id : Int) (ok : Bool) : Prop := (ok = false ∧ id = 0 ∧ ∀ x ∈ L, x.kd.2.2.2 = true) ∨ (ok = true ∧ ∃ y ∈ L, y.id = id ∧ y.kd.2.2.2 = false ∧ ∀ x ∈ L, x.kd.2.2.2 = false → y.base ≤ x.base)

theorem row_head {L : List It} {k : Kd} {x : It} {r : List It} (h : RowOf L k (x :: r)) : x ∈ L ∧ x.kd = k ∧ ∀ y ∈ L, y.kd = k → x.base ≤ y.base := by
  obtain ⟨h1, h2⟩ := (h.mem x).1 (by simp)
  refine ⟨h1, h2, fun y hy hk => ?_⟩
  rcases List.mem_cons.1 ((h.mem y).2 ⟨hy, hk⟩) with rfl | hm
  · exact Int.le_refl _
  · have := (List.pairwise_cons.1 h.ord).1 y hm; omega

theorem row_first {w : World} {B T n c : Nat} {a : Option Addr} {x : It} {r : List It} (h : w.ownsRow B T 1 (.slice a n c) n ((x :: r).map It.ptr)) : ∃ g, a = some ⟨g, 0, none⟩ ∧ w.cell? ⟨g, 0, none⟩ = some (.pointer (some ⟨x.b, 0, none⟩)) := by
  rcases h with ⟨hl, ⟨hv, rfl⟩ | ⟨g, cap, cur, hv, hg, hb, hn, hcm, hcs, ht⟩⟩
  · simp at hl
  · simp only [Value.slice.injEq] at hv
    obtain ⟨rfl, _, rfl⟩ := hv
    refine ⟨g, rfl, ?_⟩
    have := congrArg (fun l => l[0]?) ht
    simp only [List.map_cons, List.getElem?_cons_zero, List.getElem?_take] at this
    rw [cell_blk hb]
    simp at this
    simpa [It.ptr] using this.2

set_option maxRecDepth 100000 in
set_option maxHeartbeats 4000000 in
theorem least_any {s m1 m2 m3 : Nat} {i3 : List (Kd × Value)} {L : List It} (w : World) (h : Core w s m1 m2 m3 i3 L) (hL : L.length ≤ 1000000) :
    Calls Tryz.prog 177 #[.pointer (some ⟨s, 0, none⟩)] w fun e w' => ∃ id ok, e = .returned (.tuple #[.int .i64 id, .bool ok]) ∧ Leasts L id ok ∧ Fr (fun _ => False) w w' := by
  have c3 := (blk3 h.root).2.2
  have hlt := h.sets.lt
  have hm := Lib.hid h.sets
  have H := Lib.hid h
  clear h
  go_enter Tryz.func177, Tryz.ntmps177
  go_wp2_with (refine wpList_iter_new (by rfl) Tryz.underlying161 _ (by rfl) hm.out (by rfl) ?_; intro oo hit; go_simp)
  have hne : w.heap.size ≠ m3 := by omega
  have hlt := Lib.hid hlt
  go_loopg [4] i3.length (fun k n wr => ∃ (av : Option Addr) , n = .pointer av ∧ Hid (∃ (D : List Kd) (o : Option It), av = lv o ∧ Best L D o ∧ Went wr s m1 m2 m3 w.heap.size i3 L w D k))
  case atStart => exact ⟨none, rfl, Lib.hid ⟨[], none, rfl, fun x _ hx => by simp at hx, hit, by simp, by simp, by simp, (Fr.refl _ w).alloc oo⟩⟩
  case round =>
    obtain ⟨av, rfl, hD0⟩ := hrel
    obtain ⟨D, o, rfl, hb0, hw0⟩ := hD0.out
    have HB := Lib.hid hb0
    have HW := Lib.hid hw0
    clear hit hD0 hb0 hw0
    rcases run_iter_next (P := Tryz.prog) HW.out.iter hne 0 with ⟨hall, hr⟩ | ⟨⟨⟨pk1, pk2, pk3, pk4⟩, pv⟩, hp, hpd, wn, hr, hk1, hk2, hk3⟩
    · have hall2 : ∀ x ∈ L, x.kd ∈ D := fun x hx => by obtain ⟨p, hp, he⟩ := List.mem_map.1 (H.out.all x hx); rw [← he]; exact hall p hp
      have F := Lib.hid HW.out.fr
      cases o with
      | none =>
        have Z := Lib.hid (show Leasts L 0 false from .inl ⟨rfl, rfl, fun x hx => HB.out x hx (hall2 x hx)⟩)
        clear hall hall2 HW HB
        simp only [lv, Option.map_none]
        go_wp2_with (refine wpList_next_run (by rfl) _ (by rfl) (by rfl) hr ?_; clear hr)
        go_ret2
        exact ⟨_, _, rfl, Z.out, F.out⟩
      | some y =>
        have Z := Lib.hid (show Leasts L y.id true from .inr ⟨rfl, y, HB.out.1, rfl, HB.out.2.1, fun x hx hs => HB.out.2.2 x hx (hall2 x hx) hs⟩)
        have y0 : wr.cell? ⟨y.b, 0, none⟩ = some (.int .i64 y.id) := cell_blk (c := y.cells) (F.out.at (H.out.node y HB.out.1) (fun x => x)) 0
        clear hall hall2 HW HB
        simp only [lv, Option.map_some]
        go_wp2_with (refine wpList_next_run (by rfl) _ (by rfl) (by rfl) hr ?_; clear hr)
        go_ret2
        exact ⟨_, _, rfl, Z.out, F.out⟩
    · obtain ⟨r, hro, how⟩ := H.out.row _ _ hp
      obtain ⟨ra, rc, rfl⟩ := ownsRow_form how
      have hst := Lib.hid (HW.out.step (Nat.le_refl _) hp hpd hk1 hk2)
      have hrl : r.length ≤ 1000000 := Nat.le_trans (by rw [row_len hro H.out.ndb]; exact List.length_filter_le _ _) hL
      have fn : Fr (fun _ => False) w wn := HW.out.fr.trans hk2 (fun b hb he => by omega)
      have how' := ownsRow_keep how fn (fun _ _ x => x)
      have hnode : ∀ x ∈ L, wn.cell? ⟨x.b, 1, none⟩ = some (.int .u64 x.base) ∧ x.b < wn.heap.size := fun x hx => ⟨cell_blk (c := x.cells) (fn.at (H.out.node x hx) (fun x => x)) 1, lt_blk (fn.at (H.out.node x hx) (fun x => x))⟩
      have hnode := Lib.hid hnode
      clear hp hpd hk1 hk2 how fn
      simp only [kenc] at hr hk3
      cases pk4 with
      | true =>
        have HB2 := Lib.hid (HB.out.skip (k := (pk1, pk2, pk3, true)) (fun x _ hx hs => by rw [hx] at hs; simp at hs))
        clear hro how'
        go_wp2_with (first | (refine wpList_next_run (by rfl) _ (by rfl) (by rfl) hr ?_; clear hr) | (refine wpList_entry (by rfl) _ (by rfl) (by rfl) hk3 ?_; clear hk3))
        go_quiet (fail)
        go_wp2
        go_roundg (gk - 1)
        case measure => have := hst.out.2; omega
        case rel => exact ⟨_, rfl, Lib.hid ⟨_, o, rfl, HB2.out, (hst.out.1.fr' ((Fr.refl _ wn).alloc _)).fr' (Fr.of_drewN _ _ _)⟩⟩
      | false =>
        cases r with
        | nil =>
          have HB2 := Lib.hid (HB.out.skip (k := (pk1, pk2, pk3, false)) (fun x hx hk _ => absurd ((hro.mem x).2 ⟨hx, hk⟩) (by simp)))
          clear hro how'
          go_wp2_with (first | (refine wpList_next_run (by rfl) _ (by rfl) (by rfl) hr ?_; clear hr) | (refine wpList_entry (by rfl) _ (by rfl) (by rfl) hk3 ?_; clear hk3))
          go_quiet (fail)
          go_wp2
          go_roundg (gk - 1)
          case measure => have := hst.out.2; omega
          case rel => exact ⟨_, rfl, Lib.hid ⟨_, o, rfl, HB2.out, (hst.out.1.fr' ((Fr.refl _ wn).alloc _)).fr' (Fr.of_drewN _ _ _)⟩⟩
        | cons x r =>
          obtain ⟨hx1, hx2, hx3⟩ := row_head hro
          obtain ⟨g, rfl, e0⟩ := row_first how'
          obtain ⟨e1, hxb⟩ := hnode.out x hx1
          have hgb := World.block_lt_of_cell? _ _ e0
          simp only at hgb
          have hrl2 : 0 < (x :: r).length := by simp
          have hrl3 : decide ((0 : Int) < ((x :: r).length : Int)) = true := by simp only [decide_eq_true_eq]; omega
          generalize (x :: r).length = n at *
          have X3 := Lib.hid hx3
          have X2 := Lib.hid hx2
          have XS : x.kd.2.2.2 = false := by rw [hx2]
          have XS := Lib.hid XS
          clear hx3 hx2 hro how'
          cases o with
          | none =>
            have HB2 := Lib.hid (HB.out.take (k := (pk1, pk2, pk3, false)) hx1 XS.out (fun y hy hk => X3.out y hy hk) (fun y hy => by simp at hy))
            simp only [lv, Option.map_none]
            go_wp2_with (first | (refine wpList_next_run (by rfl) _ (by rfl) (by rfl) hr ?_; clear hr) | (refine wpList_entry (by rfl) _ (by rfl) (by rfl) hk3 ?_; clear hk3))
            go_quiet (fail)
            go_wp2
            go_roundg (gk - 1)
            case measure => have := hst.out.2; omega
            case rel => exact ⟨_, rfl, Lib.hid ⟨_, some x, rfl, HB2.out, (hst.out.1.fr' ((Fr.refl _ wn).alloc _)).fr' (Fr.of_drewN _ _ _)⟩⟩
          | some y =>
            obtain ⟨e2, hyb⟩ := hnode.out y HB.out.1
            simp only [lv, Option.map_some]
            by_cases hlt : x.base < y.base
            · have HB2 := Lib.hid (HB.out.take (k := (pk1, pk2, pk3, false)) hx1 XS.out (fun y hy hk => X3.out y hy hk) (fun z hz => by cases hz; exact hlt))
              go_wp2_with (first | (refine wpList_next_run (by rfl) _ (by rfl) (by rfl) hr ?_; clear hr) | (refine wpList_entry (by rfl) _ (by rfl) (by rfl) hk3 ?_; clear hk3))
              go_quiet (fail)
              go_wp2
              go_roundg (gk - 1)
              case measure => have := hst.out.2; omega
              case rel => exact ⟨_, rfl, Lib.hid ⟨_, some x, rfl, HB2.out, (hst.out.1.fr' ((Fr.refl _ wn).alloc _)).fr' (Fr.of_drewN _ _ _)⟩⟩
            · have HB2 := Lib.hid (HB.out.skip (k := (pk1, pk2, pk3, false)) (fun z hz hk _ => ⟨y, rfl, by have := X3.out z hz hk; omega⟩))
              go_wp2_with (first | (refine wpList_next_run (by rfl) _ (by rfl) (by rfl) hr ?_; clear hr) | (refine wpList_entry (by rfl) _ (by rfl) (by rfl) hk3 ?_; clear hk3))
              go_quiet (fail)
              go_wp2
              go_roundg (gk - 1)
              case measure => have := hst.out.2; omega
              case rel => exact ⟨_, rfl, Lib.hid ⟨_, some y, rfl, HB2.out, (hst.out.1.fr' ((Fr.refl _ wn).alloc _)).fr' (Fr.of_drewN _ _ _)⟩⟩
end Go.Proofs.YtnjaaagiindclaaGreatDoor

/-
  What the sets' own words look at.
-/
namespace Go.Proofs.YtnjaaagiindclaaGreatDoor
open Go.RowKit Go.Deep

theorem blk6 {w : World} {b : Nat} {x0 x1 x2 x3 x4 x5 : Value} {t : TypeId} (h : w.heap[b]? = some (.cells #[x0, x1, x2, x3, x4, x5] t (0, 0))) :
    w.cell? ⟨b, 0, none⟩ = some x0 ∧ w.cell? ⟨b, 1, none⟩ = some x1 ∧ w.cell? ⟨b, 2, none⟩ = some x2 ∧ w.cell? ⟨b, 3, none⟩ = some x3 ∧ w.cell? ⟨b, 4, none⟩ = some x4 ∧ w.cell? ⟨b, 5, none⟩ = some x5 :=
  ⟨cell_blk h 0, cell_blk h 1, cell_blk h 2, cell_blk h 3, cell_blk h 4, cell_blk h 5⟩

theorem zero_item (w : World) : (zeroValue 158).run Tryz.prog w = .ok (.pointer none) w := by
  have h : (Tryz.prog.info? 158).map (·.zero) = some (some (.pointer none)) := by kernel_rfl
  cases hi : Tryz.prog.info? 158 with
  | none => rw [hi] at h; simp at h
  | some i =>
    rw [hi] at h
    simp only [Option.map_some, Option.some.injEq] at h
    simp [zeroValue, run_typeInfo w hi, h, Sem.run_bind, Result.andThen]

/-- a span by its number -/
theorem Sets.find {w : World} {s m1 m2 m3 : Nat} {i1 i2 : List (Int × Value)} {i3 : List (Kd × Value)} {L : List It} (h : Sets w s m1 m2 m3 i1 i2 i3 L) {x : It} (hx : x ∈ L) : (mapGet i1 x.id).getD (.pointer none) = .pointer (some ⟨x.b, 0, none⟩) := by
  rw [(mapGet_some h.ids.nodup).2 ((h.idsL _ _).2 ⟨x, hx, rfl, rfl⟩)]; rfl
theorem Sets.find_none {w : World} {s m1 m2 m3 : Nat} {i1 i2 : List (Int × Value)} {i3 : List (Kd × Value)} {L : List It} (h : Sets w s m1 m2 m3 i1 i2 i3 L) {z : Int} (hz : ∀ x ∈ L, x.id ≠ z) : (mapGet i1 z).getD (.pointer none) = .pointer none := by
  rw [mapGet_none.2]; rfl
  intro hm
  obtain ⟨⟨k, v⟩, hp, rfl⟩ := List.mem_map.1 hm
  obtain ⟨x, hx, h1, _⟩ := (h.idsL _ _).1 hp
  exact hz x hx h1
theorem Sets.at {w : World} {s m1 m2 m3 : Nat} {i1 i2 : List (Int × Value)} {i3 : List (Kd × Value)} {L : List It} (h : Sets w s m1 m2 m3 i1 i2 i3 L) {x : It} (hx : x ∈ L) : (mapGet i2 x.base).getD (.pointer none) = .pointer (some ⟨x.b, 0, none⟩) := by
  rw [(mapGet_some h.bases.nodup).2 ((h.basesL _ _).2 ⟨x, hx, rfl, rfl⟩)]; rfl
theorem Sets.at_none {w : World} {s m1 m2 m3 : Nat} {i1 i2 : List (Int × Value)} {i3 : List (Kd × Value)} {L : List It} (h : Sets w s m1 m2 m3 i1 i2 i3 L) {z : Int} (hz : ∀ x ∈ L, x.base ≠ z) : (mapGet i2 z).getD (.pointer none) = .pointer none := by
  rw [mapGet_none.2]; rfl
  intro hm
  obtain ⟨⟨k, v⟩, hp, rfl⟩ := List.mem_map.1 hm
  obtain ⟨x, hx, h1, _⟩ := (h.basesL _ _).1 hp
  exact hz x hx h1

theorem remove_none {s m1 m2 m3 : Nat} {i1 i2 : List (Int × Value)} {i3 : List (Kd × Value)} {L : List It} (w : World) (h : Sets w s m1 m2 m3 i1 i2 i3 L) (z : Int) (hz : ∀ x ∈ L, x.id ≠ z) :
    Calls Tryz.prog 178 #[.pointer (some ⟨s, 0, none⟩), .int .i64 z] w fun e w' => e = .returned (.int .i64 35) ∧ w = w' := by
  have c1 := (blk3 h.core.root).1
  have hm := Lib.hid h.ids
  have hg := Lib.hid (h.find_none hz)
  clear h hz
  go_enter Tryz.func178, Tryz.ntmps178
  go_wp2_with (refine wpList_map_lookup (by rfl) keyLaw_i Tryz.underlying159 _ _ false (by rfl) hm.out z (.pointer none) zero_item (by rfl) (by rfl) ?_; simp only [hg.out, Bool.false_eq_true, if_false])
  go_ret
  exact ⟨rfl, rfl⟩
end Go.Proofs.YtnjaaagiindclaaGreatDoor

/-
  A row of the sets is another one: plain facts.
-/
namespace Go.Proofs.YtnjaaagiindclaaGreatDoor
open Go.RowKit Go.Deep

theorem nodup_inj {α : Type} {l : List α} (h : l.Nodup) {i j : Nat} {a : α} (h1 : l[i]? = some a) (h2 : l[j]? = some a) : i = j := by
  obtain ⟨l1, e1⟩ := List.getElem?_eq_some_iff.1 h1
  obtain ⟨l2, e2⟩ := List.getElem?_eq_some_iff.1 h2
  have hp := List.pairwise_iff_getElem.1 h
  rcases Nat.lt_trichotomy i j with hl | hl | hl
  · exact absurd (e1.trans e2.symm) (hp i j l1 l2 hl)
  · exact hl
  · exact absurd (e2.trans e1.symm) (hp j i l2 l1 hl)

theorem mem_mapSet {κ : Type} [DecidableEq κ] {m : List (κ × Value)} {k : κ} {v : Value} (hn : (m.map (·.1)).Nodup) (p : κ × Value) : p ∈ mapSet m k v ↔ (p = (k, v)) ∨ (p.1 ≠ k ∧ p ∈ m) := by
  by_cases hk : k ∈ m.map (·.1)
  · unfold mapSet
    cases hp : posOf k (m.map (·.1)) with
    | none =>
      exfalso
      have : mapGet m k = none := by unfold mapGet; rw [hp]; rfl
      exact mapGet_none.1 this hk
    | some j =>
      have hj := posOf_some hp
      rw [List.getElem?_map] at hj
      cases hm : m[j]? with
      | none => simp [hm] at hj
      | some q =>
        simp only [hm, Option.map_some, Option.some.injEq] at hj
        have hjl := (List.getElem?_eq_some_iff.1 hm).1
        constructor
        · intro h
          obtain ⟨i, hi⟩ := List.mem_iff_getElem?.1 h
          rw [List.getElem?_set] at hi
          by_cases hij : j = i
          · simp only [hij, if_true] at hi
            split at hi
            · simp only [Option.some.injEq] at hi; exact .inl hi.symm
            · simp at hi
          · rw [if_neg hij] at hi
            refine .inr ⟨fun he => hij ?_, List.mem_of_getElem? hi⟩
            have h1 : (m.map (·.1))[i]? = some k := by rw [List.getElem?_map, hi]; simp [he]
            have h2 : (m.map (·.1))[j]? = some k := by rw [List.getElem?_map, hm]; simp [hj]
            exact nodup_inj hn h2 h1
        · rintro (rfl | ⟨h1, h2⟩)
          · exact List.mem_of_getElem? (i := j) (by rw [List.getElem?_set, if_pos rfl, if_pos hjl])
          · obtain ⟨i, hi⟩ := List.mem_iff_getElem?.1 h2
            refine List.mem_of_getElem? (i := i) ?_
            rw [List.getElem?_set, if_neg ?_]; exact hi
            rintro rfl
            rw [hm] at hi
            simp only [Option.some.injEq] at hi
            subst hi
            exact h1 hj
  · rw [mapSet_new hk]
    simp only [List.mem_append, List.mem_singleton]
    constructor
    · rintro (h | h)
      · exact .inr ⟨fun he => hk (he ▸ List.mem_map_of_mem h), h⟩
      · exact .inl h
    · rintro (h | ⟨_, h⟩)
      · exact .inr h
      · exact .inl h

theorem mem_mapDel {κ : Type} [DecidableEq κ] {m : List (κ × Value)} {k : κ} (hn : (m.map (·.1)).Nodup) (p : κ × Value) : p ∈ mapDel m k ↔ p.1 ≠ k ∧ p ∈ m := by
  rw [mapDel_eq hn]; simp [List.mem_filter, and_comm]

theorem RowOf.other {L L' : List It} {k : Kd} {r : List It} (h : RowOf L k r) (hL : ∀ y, y.kd = k → (y ∈ L' ↔ y ∈ L)) : RowOf L' k r :=
  ⟨h.ord, fun x => by rw [h.mem]; exact ⟨fun ⟨h1, h2⟩ => ⟨(hL x h2).2 h1, h2⟩, fun ⟨h1, h2⟩ => ⟨(hL x h2).1 h1, h2⟩⟩⟩

/-- the value that a kind has, if any, is its row's -/
theorem Core.own {w : World} {s m1 m2 m3 : Nat} {i3 : List (Kd × Value)} {L : List It} (h : Core w s m1 m2 m3 i3 L) {k : Kd} {v : Value} (hv : (mapGet i3 k).getD (.slice none 0 0) = v) {g : Nat} (hg : v.ownBlock = some g) : (k, v) ∈ i3 := by
  cases hm : mapGet i3 k with
  | none => rw [hm] at hv; simp only [Option.getD_none] at hv; subst hv; simp [Value.ownBlock] at hg
  | some u => rw [hm] at hv; simp only [Option.getD_some] at hv; subst hv; exact (mapGet_some h.sets.nodup).1 hm

/-- the row of a kind turns: what the code looks at is as it was -/
theorem Core.past {w w' : World} {s m1 m2 m3 n c n' : Nat} {i3 : List (Kd × Value)} {L : List It} {a : Option Addr} (h : Core w s m1 m2 m3 i3 L) {k : Kd} (hv : (mapGet i3 k).getD (.slice none 0 0) = .slice a n c)
    (hf : Fr (fun b => some b = (Value.slice a n' c).ownBlock) w w') : w'.heap[s]? = some (.cells #[.map (some m1), .map (some m2), .map (some m3)] 163 (0, 0)) ∧ (∀ x ∈ L, w'.heap[x.b]? = some (.cells x.cells 167 (0, 0))) ∧ MapIs kenc w' m3 i3 := by
  have hown : ∀ g, some g = (Value.slice a n' c).ownBlock → (k, Value.slice a n c) ∈ i3 ∧ (Value.slice a n c).ownBlock = some g := fun g hg => by
    have hg' : (Value.slice a n c).ownBlock = some g := by rw [hg]; cases a <;> rfl
    exact ⟨h.own hv hg', hg'⟩
  refine ⟨hf.at h.root (fun hb => ?_), fun x hx => hf.at (h.node x hx) (fun hb => ?_), h.sets.fr hf (fun hb => ?_)⟩
  · obtain ⟨h1, h2⟩ := hown _ hb
    exact (h.sepR _ _ _ h1 h2).1 rfl
  · obtain ⟨h1, h2⟩ := hown _ hb
    exact (h.sepR _ _ _ h1 h2).2 x hx rfl
  · obtain ⟨h1, h2⟩ := hown _ hb
    obtain ⟨r, _, ho⟩ := h.row _ _ h1
    obtain ⟨cur, hc⟩ := ownsRow_blk ho h2
    exact h.sets.ne hc rfl

theorem Core.turn {w w' : World} {s m1 m2 m3 : Nat} {i3 : List (Kd × Value)} {L L' : List It} (h : Core w s m1 m2 m3 i3 L) {k : Kd} {v v' : Value} {r' : List It} {S : Nat → Prop}
    (hv : (mapGet i3 k).getD (.slice none 0 0) = v)
    (hL : ∀ y, y.kd ≠ k → (y ∈ L' ↔ y ∈ L)) (hr : RowOf L' k r') (hnode : ∀ y ∈ L', w'.heap[y.b]? = some (.cells y.cells 167 (0, 0)))
    (ndb : (L'.map (·.b)).Nodup) (ndB : (L'.map (·.base)).Nodup)
    (hf : Fr (fun b => S b ∨ b = m3 ∨ some b = v.ownBlock) w w') (hSs : ¬ S s) (hSr : ∀ k v g, (k, v) ∈ i3 → v.ownBlock = some g → ¬ S g)
    (hs : MapIs kenc w' m3 (mapSet i3 k v')) (ho : w'.ownsRow 0 158 1 v' r'.length (r'.map It.ptr))
    (hg : ∀ g, v'.ownBlock = some g → v.ownBlock = some g ∨ w.heap.size ≤ g)
    (hx : ∀ y ∈ L', (∀ g, v'.ownBlock = some g → g ≠ y.b) ∧ (y ∈ L ∨ w.heap.size ≤ y.b)) : Core w' s m1 m2 m3 (mapSet i3 k v') L' := by
  have hn := h.sets.nodup
  have hsl := lt_blk h.root
  have h3s : s ≠ m3 := h.sets.ne h.root
  have hblk : ∀ k v g, (k, v) ∈ i3 → v.ownBlock = some g → g < w.heap.size ∧ g ≠ m3 := fun k v g hm hg' => by
    obtain ⟨r, _, ho'⟩ := h.row k v hm
    obtain ⟨cur, hc⟩ := ownsRow_blk ho' hg'
    exact ⟨lt_blk hc, h.sets.ne hc⟩
  have hvs : ∀ g, v.ownBlock = some g → g ≠ s := fun g hg' => (h.sepR _ _ g (h.own hv hg') hg').1
  refine ⟨hf.at h.root ?_, hs, hnode, ndb, ndB, fun k' u hm => ?_, fun y hy => ?_, fun y hy => ?_, fun k' u g hm hg' => ?_, fun k1 u1 k2 u2 g hm1 hm2 hg1 hg2 => ?_⟩
  · rintro (h1 | h1 | h1)
    · exact hSs h1
    · exact h3s h1
    · exact hvs s h1.symm rfl
  · rcases (mem_mapSet hn _).1 hm with he | ⟨hne, hm⟩
    · simp only [Prod.mk.injEq] at he
      obtain ⟨rfl, rfl⟩ := he
      exact ⟨r', hr, ho⟩
    · simp only at hne
      obtain ⟨r, h1, h2⟩ := h.row k' u hm
      refine ⟨r, h1.other (fun y hy => hL y (by rw [hy]; exact hne)), ownsRow_keep h2 hf (fun g hg' => ?_)⟩
      rintro (h3 | h3 | h3)
      · exact hSr _ _ g hm hg' h3
      · exact (hblk _ _ g hm hg').2 h3
      · exact hne (h.sepK _ _ _ _ g hm (h.own hv h3.symm) hg' h3.symm)
  · rw [List.mem_map]
    by_cases hy' : y.kd = k
    · exact ⟨(k, v'), (mem_mapSet hn _).2 (.inl rfl), hy'.symm⟩
    · obtain ⟨p, hp, he⟩ := List.mem_map.1 (h.all y ((hL y hy').1 hy))
      exact ⟨p, (mem_mapSet hn _).2 (.inr ⟨by rw [he]; exact hy', hp⟩), he⟩
  · rcases (hx y hy).2 with h1 | h1
    · exact h.sepS y h1
    · omega
  · rcases (mem_mapSet hn _).1 hm with he | ⟨hne, hm⟩
    · simp only [Prod.mk.injEq] at he
      obtain ⟨rfl, rfl⟩ := he
      refine ⟨?_, fun y hy => (hx y hy).1 g hg'⟩
      rcases hg g hg' with h1 | h1
      · exact hvs g h1
      · omega
    · refine ⟨(h.sepR _ _ g hm hg').1, fun y hy => ?_⟩
      rcases (hx y hy).2 with h1 | h1
      · exact (h.sepR _ _ g hm hg').2 y h1
      · have := (hblk _ _ g hm hg').1; omega
  · rcases (mem_mapSet hn _).1 hm1 with he1 | ⟨hne1, hn1⟩ <;> rcases (mem_mapSet hn _).1 hm2 with he2 | ⟨hne2, hn2⟩
    · simp only [Prod.mk.injEq] at he1 he2; rw [he1.1, he2.1]
    · simp only [Prod.mk.injEq] at he1
      obtain ⟨rfl, rfl⟩ := he1
      rcases hg g hg1 with h1 | h1
      · exact h.sepK _ _ _ _ g (h.own hv h1) hn2 h1 hg2
      · have := (hblk _ _ g hn2 hg2).1; omega
    · simp only [Prod.mk.injEq] at he2
      obtain ⟨rfl, rfl⟩ := he2
      rcases hg g hg2 with h1 | h1
      · exact h.sepK _ _ _ _ g hn1 (h.own hv h1) hg1 h1
      · have := (hblk _ _ g hn1 hg1).1; omega
    · exact h.sepK _ _ _ _ g hn1 hn2 hg1 hg2
end Go.Proofs.YtnjaaagiindclaaGreatDoor

/-
  m[k] = v as a step of an assignment of more than one: the entry is made, then stored to. No program in sight.
-/
namespace Go.Proofs.YtnjaaagiindclaaGreatDoor
open Go.RowKit

/-- the map in block b holds m, and an entry of the stamp st for k behind it -/
def Made {κ : Type} (enc : κ → Value) (w : World) (b : Nat) (m : List (κ × Value)) (k : κ) (z : Value) (st : Value) : Prop :=
  ∃ (es : Array MapEntry) (clock : Nat), w.heap[b]? = some (.map (es.push { key := enc k, val := z, born := clock }) (clock + 1)) ∧ es.toList.map (fun e => (e.key, e.val)) = m.map (fun p => (enc p.1, p.2)) ∧ (m.map (·.1)).Nodup ∧ (es.toList.map (·.born)).Nodup ∧ (∀ e ∈ es.toList, e.born < clock) ∧ st = goInt clock

section
variable {P : Program} {kt et t : TypeId} {κ : Type} [DecidableEq κ] {enc : κ → Value}

omit [DecidableEq κ] in
theorem Made.fr {S : Nat → Prop} {w w' : World} {b : Nat} {m : List (κ × Value)} {k : κ} {z st : Value} (h : Made enc w b m k z st) (hf : Fr S w w') (hs : ¬ S b) : Made enc w' b m k z st := by
  obtain ⟨es, c, h1, h2⟩ := h
  exact ⟨es, c, hf.at h1 hs, h2⟩

theorem run_map_entry_new (L : KeyLaw P kt enc) (ht : P.underlying t = some (.map kt et)) {w : World} {b : Nat} {m : List (κ × Value)} (h : MapIs enc w b m) (k : κ) (hk : k ∉ m.map (·.1)) (z : Value) (hz : (zeroValue et).run P w = .ok z w) :
    ∃ st w', (Instr.mapEntry t (.map (some b)) (enc k)).run P w = .ok (.tuple #[z, st]) w' ∧ Made enc w' b m k z st ∧ Fr (fun x => x = b) w w' := by
  obtain ⟨es, clock, hb, hes, hn, hbn, hbl⟩ := h
  have hp := posOf_none.2 hk
  refine ⟨goInt clock, put w b (.map (es.push { key := enc k, val := z, born := clock }) (clock + 1)), ?_, ⟨es, clock, heap_put hb, hes, hn, hbn, hbl, rfl⟩, fr_put w b _⟩
  unfold Instr.mapEntry
  simp only [Sem.run_bind, run_underlying ht, Result.andThen, getObj_map hb, L.check, find_at L hes k w, hp, Option.bind_none, hz]
  simp [setObj_map _ hb]

theorem run_entry_store (t : TypeId) {w : World} {b : Nat} {m : List (κ × Value)} {k : κ} {z st : Value} (h : Made enc w b m k z st) (hk : k ∉ m.map (·.1)) (v : Value) :
    ∃ w', (Instr.entryStore t (.map (some b)) st v).run P w = .ok () w' ∧ MapIs enc w' b (mapSet m k v) ∧ Fr (fun x => x = b) w w' := by
  obtain ⟨es, clock, hb, hes, hn, hbn, hbl, rfl⟩ := h
  have hfind : (es.push { key := enc k, val := z, born := clock }).findIdx? (fun e => (e.born : Int) == (clock : Int)) = some es.size := by
    rw [Array.findIdx?_push]
    have : es.findIdx? (fun e => (e.born : Int) == (clock : Int)) = none := by
      rw [Array.findIdx?_eq_none_iff]
      intro e he
      have := hbl e (by simpa using he)
      simp only [beq_eq_false_iff_ne]; omega
    rw [this]; simp
  have hmod : (es.push { key := enc k, val := z, born := clock }).modify es.size (fun e => { e with val := v }) = es.push { key := enc k, val := v, born := clock } := by
    apply Array.ext_getElem?
    intro i
    simp only [Array.getElem?_modify, Array.getElem?_push]
    by_cases hi : i = es.size
    · subst hi; simp
    · simp [hi, Ne.symm hi]
  rw [mapSet_new hk]
  refine ⟨put w b (.map (es.push { key := enc k, val := v, born := clock }) (clock + 1)), ?_, ⟨_, _, heap_put hb, ?_, ?_, ?_, ?_⟩, fr_put w b _⟩
  · unfold Instr.entryStore
    simp only [Sem.run_bind, getObj_map hb, Result.andThen, goInt, asInt, asIntOf, Sem.run_pure, hfind, hmod]
    simp [setObj_map _ hb]
  · simp [hes]
  · simp only [List.map_append, List.map_cons, List.map_nil, List.nodup_append, List.nodup_cons, List.not_mem_nil, not_false_eq_true, List.nodup_nil, and_self, List.mem_singleton]
    refine ⟨hn, trivial, ?_⟩
    rintro a ha x rfl rfl
    exact hk ha
  · simp only [Array.toList_push, List.map_append, List.map_cons, List.map_nil, List.nodup_append, List.nodup_cons, List.not_mem_nil, not_false_eq_true, List.nodup_nil, and_self, List.mem_singleton]
    refine ⟨hbn, trivial, ?_⟩
    rintro a ha x rfl rfl
    obtain ⟨e, he, he2⟩ := List.mem_map.1 ha
    have := hbl e he; omega
  · intro e he
    simp only [Array.toList_push, List.mem_append, List.mem_singleton] at he
    rcases he with he | rfl
    · have := hbl e he; omega
    · simp
end
end Go.Proofs.YtnjaaagiindclaaGreatDoor

/-
  A span is removed.
-/
namespace Go.Proofs.YtnjaaagiindclaaGreatDoor
open Go.RowKit Go.Deep

/-- sets, of which F names the blocks -/
def Is (w : World) (s : Nat) (L : List It) (F : Nat → Prop) : Prop := ∃ m1 m2 m3 i1 i2 i3, Sets w s m1 m2 m3 i1 i2 i3 L ∧ ∀ b, sfp s m1 m2 m3 i3 L b → F b

/-- what the code looks at -/
theorem Core.sight {w : World} {s m1 m2 m3 : Nat} {i3 : List (Kd × Value)} {L : List It} (h : Core w s m1 m2 m3 i3 L) {x : It} (hx : x ∈ L) :
    (w.cell? ⟨s, 0, none⟩ = some (.map (some m1)) ∧ w.cell? ⟨s, 1, none⟩ = some (.map (some m2)) ∧ w.cell? ⟨s, 2, none⟩ = some (.map (some m3))) ∧
    w.cell? ⟨x.b, 0, none⟩ = some (.int .i64 x.id) ∧ w.cell? ⟨x.b, 1, none⟩ = some (.int .u64 x.base) ∧ w.cell? ⟨x.b, 2, none⟩ = some (.int .i64 x.kd.1) ∧ w.cell? ⟨x.b, 3, none⟩ = some (.bool x.kd.2.1) ∧ w.cell? ⟨x.b, 4, none⟩ = some (.bool x.kd.2.2.1) ∧ w.cell? ⟨x.b, 5, none⟩ = some (.bool x.kd.2.2.2) :=
  ⟨blk3 h.root, blk6 (h.node x hx)⟩

theorem row_split {L : List It} {r : List It} {x : It} (h : RowOf L x.kd r) (hx : x ∈ L) : ∃ pre post, r = pre ++ x :: post ∧ pos r x.base = pre.length := by
  obtain ⟨pre, post, rfl⟩ := List.append_of_mem ((h.mem x).2 ⟨hx, rfl⟩)
  have ho := h.ord
  rw [List.pairwise_append] at ho
  refine ⟨pre, post, rfl, pos_of (by simp) (fun i y hi hy => ?_) (fun i y hi hy => ?_)⟩
  · rw [List.getElem?_append_left hi] at hy
    exact ho.2.2 y (List.mem_of_getElem? hy) x (by simp)
  · rw [List.getElem?_append_right hi] at hy
    rcases List.mem_cons.1 (List.mem_of_getElem? hy) with rfl | hm
    · exact Int.le_refl _
    · have := (List.pairwise_cons.1 ho.2.1).1 y hm; omega

theorem RowOf.cut {L : List It} {x : It} {pre post : List It} (h : RowOf L x.kd (pre ++ x :: post)) (hn : (L.map (·.id)).Nodup) (hx : x ∈ L) : RowOf (L.filter (fun y => decide (y.id ≠ x.id))) x.kd (pre ++ post) := by
  have ho := h.ord
  refine ⟨ho.sublist (List.Sublist.append_left (List.sublist_cons_self _ _) _), fun y => ?_⟩
  have hm := h.mem y
  simp only [List.mem_append, List.mem_cons, List.mem_filter, decide_eq_true_eq] at hm ⊢
  rw [List.pairwise_append] at ho
  constructor
  · intro hy
    have hy' : y ∈ L ∧ y.kd = x.kd := hm.1 (hy.elim .inl (fun h => .inr (.inr h)))
    refine ⟨⟨hy'.1, fun he => ?_⟩, hy'.2⟩
    have hyx : y = x := by
      obtain ⟨i, hi⟩ := List.mem_iff_getElem?.1 hy'.1
      obtain ⟨j, hj⟩ := List.mem_iff_getElem?.1 hx
      have := nodup_inj hn (i := i) (j := j) (a := x.id) (by rw [List.getElem?_map, hi]; simp [he]) (by rw [List.getElem?_map, hj]; rfl)
      subst this
      rw [hi] at hj; simpa using hj
    subst hyx
    rcases hy with hy | hy
    · have := ho.2.2 y hy y (by simp); omega
    · have := (List.pairwise_cons.1 ho.2.1).1 y hy; omega
  · rintro ⟨⟨h1, h2⟩, h3⟩
    rcases hm.2 ⟨h1, h3⟩ with h4 | rfl | h4
    · exact .inl h4
    · exact absurd rfl h2
    · exact .inr h4

theorem ownBlock_len (a : Option Addr) (n n' c : Nat) : (Value.slice a n c).ownBlock = (Value.slice a n' c).ownBlock := by cases a <;> rfl

/-- the sets behind a removal -/
theorem removed {w w1 w2 w3 w4 w5 : World} {s m1 m2 m3 c : Nat} {i1 i2 : List (Int × Value)} {i3 : List (Kd × Value)} {L r pre post : List It} {F : Nat → Prop} {x : It} {a : Option Addr} {v4 : Value}
    (H : Sets w s m1 m2 m3 i1 i2 i3 L) (hF : ∀ b, sfp s m1 m2 m3 i3 L b → F b) (hx : x ∈ L) (hv : (mapGet i3 x.kd).getD (.slice none 0 0) = .slice a r.length c) (hr : RowOf L x.kd r) (hsp : r = pre ++ x :: post)
    (M1 : MapIs ienc w1 m1 (mapDel i1 x.id)) (F1 : Fr (fun b => b = m1) w w1) (M2 : MapIs benc w2 m2 (mapDel i2 x.base)) (F2 : Fr (fun b => b = m2) w1.drew w2) (F3 : Fr (fun _ => False) w2.drew w3)
    (ho : w4.ownsRow 0 158 1 v4 (pre.length + (r.length - (pre.length + 1))) ((r.map It.ptr).take (pre.length * 1) ++ (r.map It.ptr).drop ((pre.length + 1) * 1)))
    (F4 : Fr (fun b => some b = (Value.slice a pre.length c).ownBlock) w3 w4) (hg4 : ∀ g, v4.ownBlock = some g → (Value.slice a pre.length c).ownBlock = some g ∨ w3.heap.size ≤ g)
    (M5 : MapIs kenc w5 m3 (mapSet i3 x.kd v4)) (F5 : Fr (fun b => b = m3) w4 w5) :
    Is w5 s (L.filter (fun y => decide (y.id ≠ x.id))) (fun b => F b ∨ w.heap.size ≤ b) ∧ Fr F w w5 := by
  have hob : (Value.slice a pre.length c).ownBlock = (Value.slice a r.length c).ownBlock := ownBlock_len a _ _ c
  rw [hob] at F4 hg4
  generalize hvv : Value.slice a r.length c = v at hv F4 hg4
  have g2 : Fr (fun b => b = m1 ∨ b = m2) w w2 := (F1.drew.mono (fun _ _ h => .inl h)).trans F2 (fun _ _ h => .inr h)
  have g3 : Fr (fun b => b = m1 ∨ b = m2) w w3 := g2.drew.trans F3 (fun _ _ => False.elim)
  have hsz3 := g3.size
  have hown : ∀ g, v.ownBlock = some g → (x.kd, v) ∈ i3 := fun g hg => H.core.own hv hg
  have hm1 : ∀ g, v.ownBlock = some g → g ≠ m1 ∧ g ≠ m2 ∧ g ≠ m3 ∧ g < w.heap.size := fun g hg => by
    obtain ⟨r', _, ho'⟩ := H.core.row _ _ (hown g hg)
    obtain ⟨cur, hc⟩ := ownsRow_blk ho' hg
    exact ⟨H.ids.ne hc, H.bases.ne hc, H.core.sets.ne hc, lt_blk hc⟩
  have g5 : Fr (fun b => (b = m1 ∨ b = m2) ∨ b = m3 ∨ some b = v.ownBlock) w w5 :=
    ((g3.mono (fun _ _ h => Or.inl h)).trans F4 (fun _ _ h => .inr (.inr h))).trans F5 (fun _ _ h => .inr (.inl h))
  have hsm : s ≠ m1 ∧ s ≠ m2 := ⟨H.ids.ne H.core.root, H.bases.ne H.core.root⟩
  have hrow' : (r.map It.ptr).take (pre.length * 1) ++ (r.map It.ptr).drop ((pre.length + 1) * 1) = (pre ++ post).map It.ptr := by
    rw [hsp]
    simp only [Nat.mul_one, List.map_append, List.map_cons]
    have e1 : (pre.map It.ptr ++ x.ptr :: post.map It.ptr).take pre.length = pre.map It.ptr := List.take_left' (by simp)
    have e2 : (pre.map It.ptr ++ x.ptr :: post.map It.ptr).drop (pre.length + 1) = post.map It.ptr := by
      rw [show pre.map It.ptr ++ x.ptr :: post.map It.ptr = (pre.map It.ptr ++ [x.ptr]) ++ post.map It.ptr by simp]
      exact List.drop_left' (by simp)
    rw [e1, e2]
  have hlen : pre.length + (r.length - (pre.length + 1)) = (pre ++ post).length := by rw [hsp]; simp; omega
  rw [hrow', hlen] at ho
  have ho5 : w5.ownsRow 0 158 1 v4 (pre ++ post).length ((pre ++ post).map It.ptr) := ownsRow_keep ho F5 (fun g hg he => by
    rcases hg4 g hg with h1 | h1
    · exact (hm1 g h1).2.2.1 he
    · have := H.core.sets.lt; omega)
  have hnx : ∀ y ∈ L, w5.heap[y.b]? = some (.cells y.cells 167 (0, 0)) := fun y hy => g5.at (H.core.node y hy) (by
    rintro ((h | h) | h | h)
    · exact H.ids.ne (H.core.node y hy) h
    · exact H.bases.ne (H.core.node y hy) h
    · exact H.core.sets.ne (H.core.node y hy) h
    · exact (H.core.sepR _ _ _ (hown _ h.symm) h.symm).2 y hy rfl)
  have hsub : ∀ y ∈ L.filter (fun y => decide (y.id ≠ x.id)), y ∈ L := fun y hy => (List.mem_filter.1 hy).1
  have hinj : ∀ y ∈ L, y.id = x.id → y = x := fun y hy he => by
    obtain ⟨i, hi⟩ := List.mem_iff_getElem?.1 hy
    obtain ⟨j, hj⟩ := List.mem_iff_getElem?.1 hx
    have := nodup_inj H.ndI (i := i) (j := j) (a := x.id) (by rw [List.getElem?_map, hi]; simp [he]) (by rw [List.getElem?_map, hj]; rfl)
    subst this
    rw [hi] at hj; simpa using hj
  have hinjb : ∀ y ∈ L, y.base = x.base → y = x := fun y hy he => by
    obtain ⟨i, hi⟩ := List.mem_iff_getElem?.1 hy
    obtain ⟨j, hj⟩ := List.mem_iff_getElem?.1 hx
    have := nodup_inj H.core.ndB (i := i) (j := j) (a := x.base) (by rw [List.getElem?_map, hi]; simp [he]) (by rw [List.getElem?_map, hj]; rfl)
    subst this
    rw [hi] at hj; simpa using hj
  have hv4x : ∀ y ∈ L, ∀ g, v4.ownBlock = some g → g ≠ y.b := fun y hy g hg => by
    rcases hg4 g hg with h1 | h1
    · exact (H.core.sepR _ _ _ (hown _ h1) h1).2 y hy
    · have := lt_blk (H.core.node y hy); omega
  have hcut := RowOf.cut (hsp ▸ hr) H.ndI hx
  have C5 : Core w5 s m1 m2 m3 (mapSet i3 x.kd v4) (L.filter (fun y => decide (y.id ≠ x.id))) :=
    H.core.turn (S := fun b => b = m1 ∨ b = m2) hv (fun y hy => by rw [List.mem_filter]; exact ⟨fun h => h.1, fun h => ⟨h, by simp only [decide_eq_true_eq]; intro he; exact hy (by rw [hinj y h he])⟩⟩) hcut (fun y hy => hnx y (hsub y hy))
      (H.core.ndb.sublist (List.filter_sublist.map _)) (H.core.ndB.sublist (List.filter_sublist.map _)) g5 (fun h => h.elim hsm.1 hsm.2)
      (fun k u g hm hg h => by
        obtain ⟨r', _, ho'⟩ := H.core.row _ _ hm
        obtain ⟨cur, hc⟩ := ownsRow_blk ho' hg
        exact h.elim (H.ids.ne hc) (H.bases.ne hc)) M5 ho5 (fun g hg => (hg4 g hg).imp_right (fun h => by omega)) (fun y hy => ⟨hv4x y (hsub y hy), .inl (hsub y hy)⟩)
  have hq1 : ∀ z v, (z, v) ∈ mapDel i1 x.id ↔ ∃ y ∈ L.filter (fun y => decide (y.id ≠ x.id)), y.id = z ∧ v = y.ptr := fun z u => by
    rw [mem_mapDel H.ids.nodup, H.idsL]
    constructor
    · rintro ⟨h1, y, hy, h2, h3⟩
      exact ⟨y, List.mem_filter.2 ⟨hy, by simp only [decide_eq_true_eq]; rw [h2]; exact h1⟩, h2, h3⟩
    · rintro ⟨y, hy, h2, h3⟩
      have := (List.mem_filter.1 hy).2
      simp only [decide_eq_true_eq] at this
      exact ⟨by rw [← h2]; exact this, y, hsub y hy, h2, h3⟩
  have hq2 : ∀ z v, (z, v) ∈ mapDel i2 x.base ↔ ∃ y ∈ L.filter (fun y => decide (y.id ≠ x.id)), y.base = z ∧ v = y.ptr := fun z u => by
    rw [mem_mapDel H.bases.nodup, H.basesL]
    constructor
    · rintro ⟨h1, y, hy, h2, h3⟩
      refine ⟨y, List.mem_filter.2 ⟨hy, ?_⟩, h2, h3⟩
      simp only [decide_eq_true_eq]
      intro he
      rw [hinj y hy he] at h2
      exact h1 h2.symm
    · rintro ⟨y, hy, h2, h3⟩
      have hne := (List.mem_filter.1 hy).2
      simp only [decide_eq_true_eq] at hne
      refine ⟨fun he => hne ?_, y, hsub y hy, h2, h3⟩
      simp only at he
      rw [hinjb y (hsub y hy) (h2.trans he)]
  have a2 : MapIs ienc w2 m1 (mapDel i1 x.id) := MapIs.fr (w := w1.drew) (S := fun b => b = m2) M1 F2 H.sepM.1
  have a3 : MapIs ienc w3 m1 (mapDel i1 x.id) := MapIs.fr (w := w2.drew) (S := fun _ => False) a2 F3 (fun h => h)
  have M1' : MapIs ienc w5 m1 (mapDel i1 x.id) := (a3.fr F4 (fun h => (hm1 _ h.symm).1 rfl)).fr F5 H.sepM.2.1
  have b3 : MapIs benc w3 m2 (mapDel i2 x.base) := MapIs.fr (w := w2.drew) (S := fun _ => False) M2 F3 (fun h => h)
  have M2' : MapIs benc w5 m2 (mapDel i2 x.base) := (b3.fr F4 (fun h => (hm1 _ h.symm).2.1 rfl)).fr F5 H.sepM.2.2
  refine ⟨⟨m1, m2, m3, _, _, _, ⟨C5, M1', M2', hq1, hq2, H.ndI.sublist (List.filter_sublist.map _), H.sepM⟩, fun b hb => ?_⟩, g5.mono (fun b _ hb => hF b ?_)⟩
  · rcases hb with hb | hb | hb | hb | ⟨y, hy, hb⟩ | ⟨k, u, hm, hb⟩
    · exact .inl (hF b (.inl hb))
    · exact .inl (hF b (.inr (.inl hb)))
    · exact .inl (hF b (.inr (.inr (.inl hb))))
    · exact .inl (hF b (.inr (.inr (.inr (.inl hb)))))
    · exact .inl (hF b (.inr (.inr (.inr (.inr (.inl ⟨y, hsub y hy, hb⟩))))))
    · rcases (mem_mapSet H.core.sets.nodup _).1 hm with he | ⟨hne, hm⟩
      · simp only [Prod.mk.injEq] at he
        obtain ⟨rfl, rfl⟩ := he
        rcases hg4 b hb with h1 | h1
        · exact .inl (hF b (.inr (.inr (.inr (.inr (.inr ⟨_, v, hown _ h1, h1⟩))))))
        · exact .inr (by omega)
      · exact .inl (hF b (.inr (.inr (.inr (.inr (.inr ⟨k, u, hm, hb⟩))))))
  · rcases hb with (hb | hb) | hb | hb
    · exact .inr (.inl hb)
    · exact .inr (.inr (.inl hb))
    · exact .inr (.inr (.inr (.inl hb)))
    · exact .inr (.inr (.inr (.inr (.inr ⟨_, v, hown _ hb.symm, hb.symm⟩))))

theorem info_item : (Tryz.prog.info? 158).map (fun i => (i.zero, i.size, i.bytes)) = some (some (.pointer none), 1, 8) := by kernel_rfl

set_option maxRecDepth 100000 in
set_option maxHeartbeats 8000000 in
theorem remove_ok {s : Nat} {L : List It} {F : Nat → Prop} (w : World) (h0 : Is w s L F) (x : It) (hx : x ∈ L) (hL : L.length ≤ 1000000) :
    Calls Tryz.prog 178 #[.pointer (some ⟨s, 0, none⟩), .int .i64 x.id] w fun e w' => e = .returned (.int .i64 0) ∧ Is w' s (L.filter (fun y => decide (y.id ≠ x.id))) (fun b => F b ∨ w.heap.size ≤ b) ∧ Fr F w w' := by
  obtain ⟨m1, m2, m3, i1, i2, i3, h, hF⟩ := h0
  obtain ⟨⟨c1, c2, c3⟩, d0, d1, d2, d3, d4, d5⟩ := h.core.sight hx
  have H := Lib.hid h
  have HF := Lib.hid hF
  have hg := Lib.hid (h.find hx)
  have HX := Lib.hid hx
  clear h hF hx
  go_enter Tryz.func178, Tryz.ntmps178
  go_wp2_with (first | (refine wpList_map_lookup (by rfl) keyLaw_i Tryz.underlying159 _ _ false (by rfl) H.out.ids x.id (.pointer none) zero_item (by rfl) (by rfl) ?_; simp only [hg.out, Bool.false_eq_true, if_false]) | (refine wpList_map_del (by rfl) keyLaw_i Tryz.underlying159 _ _ _ (by rfl) H.out.ids x.id (by rfl) (by rfl) ?_; intro w1 hm1 hf1; have M1 := Lib.hid hm1; have F1 := Lib.hid hf1; clear hm1 hf1; go_simp))
  have C1 := Lib.hid (H.out.core.keep_map H.out.ids H.out.sepM.2.1 F1.out)
  have B1 := Lib.hid (H.out.bases.frk F1.out (fun e => H.out.sepM.1 e.symm))
  clear c1 c2 c3 d0 d1 d2 d3 d4 d5
  obtain ⟨⟨c1, c2, c3⟩, d0, d1, d2, d3, d4, d5⟩ := C1.out.sight HX.out
  go_region_held3 (fun w' => w'.cell? ⟨s, 1, none⟩ = some (.map (some m2)) ∧ w'.cell? ⟨x.b, 1, none⟩ = some (.int .u64 x.base)) (go_keep) ((refine step_plain (by rfl) (wp_map_del keyLaw_b Tryz.underlying160 _ _ _ (by rfl) (w := w1.drew) B1.out x.base (by rfl) (by rfl) ?_); intro w2 hm2 hf2; have M2 := Lib.hid hm2; have F2 := Lib.hid hf2; clear hm2 hf2; have C2 := Lib.hid ((C1.out.quiet (Fr.refl _ w1).drew).keep_map (w := w1.drew) B1.out H.out.sepM.2.2 F2.out); obtain ⟨⟨k1, k2, k3⟩, e0, e1, e2, e3, e4, e5⟩ := C2.out.sight HX.out))
  clear c1 c2 c3 d0 d1 d2 d3 d4 d5 k1 k2 k3
  obtain ⟨r, a, c, hv, hr, ho⟩ := C2.out.look x.kd
  obtain ⟨pre, post, hsp, hpos⟩ := row_split hr HX.out
  have hrl : r.length ≤ 1000000 := Nat.le_trans (by rw [row_len hr H.out.core.ndb]; exact List.length_filter_le _ _) hL
  have hp := place_any w2.drew (C2.out.quiet (Fr.refl _ w2).drew) x.kd x.base r a c hv hr ho.drew hrl
  rw [hpos] at hp
  unfold kenc at hp
  have HP := Lib.hid hp
  have HV := Lib.hid hv
  have HR := Lib.hid (And.intro hr hsp)
  have HO := Lib.hid ho
  clear hp hv hr hsp ho hpos
  go_wp2_with fail
  go_region_held3 (fun w' => w'.cell? ⟨x.b, 1, none⟩ = some (.int .u64 x.base) ∧ w'.cell? ⟨x.b, 2, none⟩ = some (.int .i64 x.kd.1) ∧ w'.cell? ⟨x.b, 3, none⟩ = some (.bool x.kd.2.1) ∧ w'.cell? ⟨x.b, 4, none⟩ = some (.bool x.kd.2.2.1) ∧ w'.cell? ⟨x.b, 5, none⟩ = some (.bool x.kd.2.2.2)) (go_keep) ((go_at_call 234; refine HP.out.mono ?_; rintro e w3 ⟨rfl, f3⟩; have F3 := Lib.hid f3; clear f3; have C3 := Lib.hid ((C2.out.quiet (Fr.refl _ w2).drew).quiet F3.out); obtain ⟨⟨k1, k2, k3⟩, j0, j1, j2, j3, j4, j5⟩ := C3.out.sight HX.out))
  clear e0 e1 e2 e3 e4 e5 k1 k2 j0 j1
  have look := fun n => run_row ((C3.out.sets).drewN n) HV.out
  unfold kenc at look
  go_wp2_with fail
  go_quiet (fail)
  obtain ⟨i0, hi, hz0, hz1, hz2⟩ := info_parts info_item
  have HO3 := Lib.hid (ownsRow_keep (ownsRow_keep HO.out (Fr.refl (fun _ => False) w2).drew (fun _ _ x => x)) F3.out (fun _ _ x => x))
  have hrn : r.length = pre.length + (post.length + 1) := by rw [HR.out.2]; simp
  have hcap := ownsRow_cap HO3.out
  have s1 := run_to 288 158 i0 Tryz.underlying288 hi a r.length c .i64 pre.length (by omega)
  have s2 := run_from 288 158 i0 Tryz.underlying288 hi 1 hz1 a r.length c .i64 (pre.length + 1) (by omega) hcap
  have hrd := Lib.hid ((ownsRow_rd HO3.out).from (k := pre.length + 1) (by omega))
  have hpre := Lib.hid (ownsRow_prefix HO3.out (k := pre.length) (by omega))
  have hpl : pre.length ≤ 1000000 := by omega
  rw [Int.natCast_add, Int.natCast_one] at s2
  generalize sliced a (pre.length + 1) r.length c 1 = sv at s2 hrd
  have hA1 := Lib.hid (show ∀ u ∈ ((r.map It.ptr).drop ((pre.length + 1) * 1)), u.oneCell' = true from fun u hu => by obtain ⟨y, _, rfl⟩ := List.mem_map.1 (List.mem_of_mem_drop hu); rfl)
  have hA2 := Lib.hid (show pre.length + (r.length - (pre.length + 1)) ≤ maxLen by simp only [maxLen]; omega)
  have hA3 := Lib.hid (show (pre.length + (r.length - (pre.length + 1))) * 8 ≤ 140737488355328 by omega)
  have hA4 : (-9223372036854775808 : Int) ≤ (pre.length : Int) + 1 ∧ (pre.length : Int) + 1 ≤ 9223372036854775807 := by omega
  replace hrn := Lib.hid hrn
  have hw : IntKind.i64.wrap ((pre.length : Int) + 1) = (pre.length : Int) + 1 := IntWalk.i64_in _ hA4
  clear hcap hA4
  go_wp2_with fail
  go_region_held3 (fun w' => w'.cell? ⟨s, 2, none⟩ = some (.map (some m3)) ∧ w'.cell? ⟨x.b, 2, none⟩ = some (.int .i64 x.kd.1) ∧ w'.cell? ⟨x.b, 3, none⟩ = some (.bool x.kd.2.1) ∧ w'.cell? ⟨x.b, 4, none⟩ = some (.bool x.kd.2.2.1) ∧ w'.cell? ⟨x.b, 5, none⟩ = some (.bool x.kd.2.2.2)) (go_keep) ((refine step_plain (by rfl) (wp_append_rows _ _ 288 (by rfl) 158 i0 _ 1 8 Tryz.underlying288 hi hz0 hz1 hz2 (by rfl) (by decide) _ _ _ (by rfl) hpre.out _ _ _ (by rfl) hrd.out hA1.out hA2.out hA3.out ?_); intro v4 w4 ho4 hf4 hg4; have P4 := Lib.hid (C3.out.past HV.out (show Fr _ w3 w4 from ⟨hf4.os, hf4.tape, hf4.output, hf4.size, hf4.same⟩)); have O4 := Lib.hid (And.intro ho4 (And.intro hf4 hg4)); clear ho4 hf4 hg4; obtain ⟨_, _, k3⟩ := blk3 P4.out.1; obtain ⟨_, _, j2, j3, j4, j5⟩ := blk6 (P4.out.2.1 x HX.out); obtain ⟨w5, r5, hm5, hf5⟩ := run_map_set keyLaw_kind Tryz.underlying161 P4.out.2.2 x.kd v4; have M5 := Lib.hid (And.intro hm5 hf5); have R5 := Lib.hid (hf5.at P4.out.1 (P4.out.2.2.ne P4.out.1)); have N5 := Lib.hid (hf5.at (P4.out.2.1 x HX.out) (P4.out.2.2.ne (P4.out.2.1 x HX.out))); clear hm5 hf5; unfold kenc at r5; obtain ⟨_, _, q3⟩ := blk3 R5.out; obtain ⟨_, _, q2, q4, q5, q6⟩ := blk6 N5.out))
  go_wp2
  go_ret
  have HH := removed H.out HF.out HX.out HV.out HR.out.1 HR.out.2 M1.out F1.out M2.out F2.out F3.out O4.out.1 (show Fr _ w3 w4 from ⟨O4.out.2.1.os, O4.out.2.1.tape, O4.out.2.1.output, O4.out.2.1.size, O4.out.2.1.same⟩) O4.out.2.2 M5.out.1 M5.out.2
  exact ⟨rfl, HH⟩
end Go.Proofs.YtnjaaagiindclaaGreatDoor

/-
  The least of a set is taken.
-/
namespace Go.Proofs.YtnjaaagiindclaaGreatDoor
open Go.RowKit Go.Deep

/-- what Take answers, and what is left -/
def Took (L : List It) (k : Kd) (id : Int) (ok : Bool) (L' : List It) : Prop :=
  (ok = false ∧ id = 0 ∧ L' = L ∧ ∀ x ∈ L, x.kd ≠ k) ∨ (ok = true ∧ ∃ x ∈ L, x.kd = k ∧ x.id = id ∧ (∀ y ∈ L, y.kd = k → x.base ≤ y.base) ∧ L' = L.filter (fun y => decide (y.id ≠ x.id)))

set_option maxRecDepth 100000 in
set_option maxHeartbeats 4000000 in
theorem take_any {s : Nat} {L : List It} {F : Nat → Prop} (w : World) (h0 : Is w s L F) (k1 : Int) (k2 k3 k4 : Bool) (hL : L.length ≤ 1000000) :
    Calls Tryz.prog 248 #[.pointer (some ⟨s, 0, none⟩), .int .i64 k1, .bool k2, .bool k3, .bool k4] w fun e w' =>
      ∃ id ok L', e = .returned (.tuple #[.int .i64 id, .bool ok]) ∧ Took L (k1, k2, k3, k4) id ok L' ∧ Is w' s L' (fun b => F b ∨ w.heap.size ≤ b) ∧ Fr F w w' := by
  obtain ⟨m1, m2, m3, i1, i2, i3, h, hF⟩ := id h0
  obtain ⟨r, a, c, hv, hr, ho⟩ := h.core.look (k1, k2, k3, k4)
  have c3 := (blk3 h.core.root).2.2
  have look := run_row h.core.sets hv
  unfold kenc at look
  simp only at look
  have H0 := Lib.hid h0
  have HC := Lib.hid h.core
  have HF := Lib.hid hF
  have hrl : r.length ≤ 1000000 := Nat.le_trans (by rw [row_len hr h.core.ndb]; exact List.length_filter_le _ _) hL
  clear h0 h hv hF
  cases r with
  | nil =>
    have T := Lib.hid (show Took L (k1, k2, k3, k4) 0 false L from .inl ⟨rfl, rfl, rfl, fun x hx he => by have := (hr.mem x).2 ⟨hx, he⟩; simp at this⟩)
    clear hr ho
    go_enter Tryz.func248, Tryz.ntmps248
    go_wp2
    go_ret2
    obtain ⟨m1, m2, m3, i1, i2, i3, h, hF⟩ := H0.out
    exact ⟨_, _, _, rfl, T.out, ⟨m1, m2, m3, i1, i2, i3, h, fun b hb => .inl (hF b hb)⟩, Fr.refl _ _⟩
  | cons x r =>
    obtain ⟨hx1, hx2, hx3⟩ := row_head hr
    obtain ⟨g, rfl, e0⟩ := row_first ho
    have e1 : w.cell? ⟨x.b, 0, none⟩ = some (.int .i64 x.id) := cell_blk (c := x.cells) (HC.out.node x hx1) 0
    have T := Lib.hid (show Took L (k1, k2, k3, k4) x.id true (L.filter (fun y => decide (y.id ≠ x.id))) from .inr ⟨rfl, x, hx1, hx2, rfl, hx3, rfl⟩)
    have hrem := Lib.hid (remove_ok w H0.out x hx1 hL)
    have hrl2 : 0 < (x :: r).length := by simp
    have hrl3 : ((x :: r).length == 0) = false := by simp
    generalize (x :: r).length = n at *
    clear hr ho hx1 hx2 hx3
    go_enter Tryz.func248, Tryz.ntmps248
    go_wp2_with (go_at_call 178; refine hrem.out.mono ?_; rintro e w1 ⟨rfl, q1⟩; have Q1 := Lib.hid q1; clear q1)
    go_ret2
    exact ⟨_, _, _, rfl, T.out, Q1.out.1, Q1.out.2⟩
end Go.Proofs.YtnjaaagiindclaaGreatDoor

/-
  A span is put: refused.
-/
namespace Go.Proofs.YtnjaaagiindclaaGreatDoor
open Go.RowKit Go.Deep

theorem new_any (w : World) : Calls Tryz.prog 44 #[] w fun e w' => ∃ s, e = .returned (.pointer (some ⟨s, 0, none⟩)) ∧ Is w' s [] (fun b => w.heap.size ≤ b) ∧ Fr (fun _ => False) w w' := by
  go_enter Tryz.func44, Tryz.ntmps44
  go_wp2_with (refine wpList_make_map (by rfl) _ (by rfl) ?_)
  go_ret
  have e1 := size_alloc w (Obj.map #[] 0)
  have e2 := size_alloc (w.alloc (Obj.map #[] 0)) (Obj.map #[] 0)
  have e3 := size_alloc ((w.alloc (Obj.map #[] 0)).alloc (Obj.map #[] 0)) (Obj.map #[] 0)
  refine ⟨_, rfl, ⟨w.heap.size, w.heap.size + 1, w.heap.size + 1 + 1, [], [], [], ⟨⟨?_, ?_, by simp, by simp, by simp, by simp, by simp, by simp, by simp, by simp⟩, ?_, ?_, by simp, by simp, by simp, by omega⟩, fun b hb => ?_⟩, ((((Fr.refl _ w).alloc _).alloc _).alloc _).alloc _⟩
  · rw [heap_alloc, if_pos (by omega)]
  · exact MapIs.new _ (by rw [heap_alloc, if_neg (by omega), heap_alloc, if_pos (by omega)])
  · exact MapIs.new _ (by rw [heap_alloc, if_neg (by omega), heap_alloc, if_neg (by omega), heap_alloc, if_neg (by omega), heap_alloc, if_pos rfl])
  · exact MapIs.new _ (by rw [heap_alloc, if_neg (by omega), heap_alloc, if_neg (by omega), heap_alloc, if_pos (by omega)])
  · rcases hb with hb | hb | hb | hb | ⟨_, hb, _⟩ | ⟨_, _, hb, _⟩
    · omega
    · omega
    · omega
    · omega
    · simp at hb
    · simp at hb

theorem put_arg (s : Nat) (w : World) (id base cls : Int) (np fu sw : Bool) (h : id < 1 ∨ cls < 0 ∨ 68 ≤ cls) :
    Calls Tryz.prog 226 #[.pointer (some ⟨s, 0, none⟩), .int .i64 id, .int .u64 base, .int .i64 cls, .bool np, .bool fu, .bool sw] w fun e w' => e = .returned (.int .i64 1) ∧ w = w' := by
  by_cases h1 : id < 1
  · clear h
    go_enter Tryz.func226, Tryz.ntmps226
    go_wp2
    go_ret
    exact ⟨rfl, rfl⟩
  · by_cases h2 : cls < 0
    · clear h
      go_enter Tryz.func226, Tryz.ntmps226
      go_wp2
      go_ret
      exact ⟨rfl, rfl⟩
    · have h3 : 68 ≤ cls := by omega
      clear h
      go_enter Tryz.func226, Tryz.ntmps226
      go_wp2
      go_ret
      exact ⟨rfl, rfl⟩

theorem run_id {w : World} {b : Nat} {m : List (Int × Value)} {k : Int} {v : Value} (h : MapIs ienc w b m) (hv : (mapGet m k).getD (.pointer none) = v) :
    (Instr.lookup 159 (.map (some b)) (.int .i64 k) false).run Tryz.prog w = .ok v w := by
  have := run_map_lookup keyLaw_i Tryz.underlying159 h k (.pointer none) (zero_item w) false
  simp only [hv, Bool.false_eq_true, if_false] at this
  exact this
theorem run_base {w : World} {b : Nat} {m : List (Int × Value)} {k : Int} {v : Value} (h : MapIs benc w b m) (hv : (mapGet m k).getD (.pointer none) = v) :
    (Instr.lookup 160 (.map (some b)) (.int .u64 k) false).run Tryz.prog w = .ok v w := by
  have := run_map_lookup keyLaw_b Tryz.underlying160 h k (.pointer none) (zero_item w) false
  simp only [hv, Bool.false_eq_true, if_false] at this
  exact this

theorem put_twice {s : Nat} {L : List It} {F : Nat → Prop} (w : World) (h0 : Is w s L F) (id base cls : Int) (np fu sw : Bool) (hid : 1 ≤ id) (hc : 0 ≤ cls ∧ cls < 68) (h : ∃ x ∈ L, x.id = id ∨ x.base = base) :
    Calls Tryz.prog 226 #[.pointer (some ⟨s, 0, none⟩), .int .i64 id, .int .u64 base, .int .i64 cls, .bool np, .bool fu, .bool sw] w fun e w' => e = .returned (.int .i64 34) ∧ w = w' := by
  obtain ⟨m1, m2, m3, i1, i2, i3, H, hF⟩ := h0
  obtain ⟨c1, c2, c3⟩ := blk3 H.core.root
  have n1 : ¬ id < 1 := by omega
  have n2 : ¬ cls < 0 := by omega
  have n3 : ¬ 68 ≤ cls := by omega
  by_cases hx : ∃ x ∈ L, x.id = id
  · obtain ⟨x, hx, rfl⟩ := hx
    have look := run_id H.ids (H.find hx)
    clear H hF h hid hc hx
    go_enter Tryz.func226, Tryz.ntmps226
    go_wp2
    go_ret
    exact ⟨rfl, rfl⟩
  · obtain ⟨x, hxL, hxb⟩ : ∃ x ∈ L, x.base = base := by
      obtain ⟨x, h1, h2 | h2⟩ := h
      · exact absurd ⟨x, h1, h2⟩ hx
      · exact ⟨x, h1, h2⟩
    subst hxb
    have look := run_id (k := id) H.ids (H.find_none (fun y hy he => hx ⟨y, hy, he⟩))
    have look2 := run_base H.bases (H.at hxL)
    clear H hF h hid hc hx hxL
    go_enter Tryz.func226, Tryz.ntmps226
    go_wp2
    go_ret
    exact ⟨rfl, rfl⟩
end Go.Proofs.YtnjaaagiindclaaGreatDoor

/-
  Room is made in a row: copy(l[j+1:], l[j:]). No program in sight.
-/
namespace Go.Proofs.YtnjaaagiindclaaGreatDoor
open Go.RowKit

theorem run_copy_shift {P : Program} {w : World} (t ty e : TypeId) (ht : P.underlying t = some (.slice e)) (hs : (P.info? e).map (·.size) = some 1) {g n c j : Nat} {xs : List Value}
    (h : w.ownsRow 0 e 1 (.slice (some ⟨g, 0, none⟩) n c) n xs) (hj : j + 1 ≤ n) (h1 : ∀ v ∈ xs, v.oneCell' = true) :
    ∃ w', (Builtin.copy_ #[t, t] ty #[sliced (some ⟨g, 0, none⟩) (j + 1) n c 1, sliced (some ⟨g, 0, none⟩) j n c 1]).run P w = .ok (goInt (n - (j + 1) : Nat)) w' ∧
      w'.ownsRow 0 e 1 (.slice (some ⟨g, 0, none⟩) n c) n (xs.take (j + 1) ++ (xs.drop j).take (n - (j + 1))) ∧ Fr (fun b => b = g) w w' := by
  have h0 := h
  obtain ⟨hl, ⟨hv, _⟩ | ⟨g', cap, cur, hv, _, hg, hn, hcm, hcs, htk⟩⟩ := h
  · simp at hv
  simp only [Value.slice.injEq, Option.some.injEq, Addr.mk.injEq] at hv
  obtain ⟨⟨rfl, _⟩, _, rfl⟩ := hv
  simp only [Nat.mul_one] at hl hcs htk
  by_cases hjn : j + 1 = n
  · have hr := run_copy_none (P := P) w t t ty e (if c = j + 1 then some ⟨g, 0, none⟩ else (some ⟨g, 0, none⟩ : Option Addr).map (·.add ((j + 1) * 1))) (if c = j then some ⟨g, 0, none⟩ else (some ⟨g, 0, none⟩ : Option Addr).map (·.add (j * 1))) (n - (j + 1)) (c - (j + 1)) (n - j) (c - j) ht hs (by rw [show n - (j + 1) = 0 by omega]; exact Nat.min_zero _)
    refine ⟨w, ?_, ?_, Fr.refl _ _⟩
    · unfold sliced
      rw [hr, show n - (j + 1) = 0 by omega]; rfl
    · rw [show n - (j + 1) = 0 by omega, List.take_zero, List.append_nil, hjn, List.take_of_length_le (by omega)]
      exact h0
  · have e1 : sliced (some ⟨g, 0, none⟩) (j + 1) n c 1 = .slice (some ⟨g, j + 1, none⟩) (n - (j + 1)) (c - (j + 1)) := by
      unfold sliced; rw [if_neg (by omega)]; simp [Addr.add]
    have e2 : ∃ a, sliced (some ⟨g, 0, none⟩) j n c 1 = .slice (some a) (n - j) (c - j) ∧ ∀ i, a.add i = ⟨g, j + i, none⟩ := by
      unfold sliced
      rw [if_neg (by omega)]
      exact ⟨_, rfl, fun i => by by_cases h1 : j = 0 <;> by_cases h2 : i = 0 <;> simp [Addr.add, h1, h2]⟩
    obtain ⟨ad, e2, hadd⟩ := e2
    have hcl : ((xs.drop j).take (n - (j + 1))).length = n - (j + 1) := by simp; omega
    have hr := run_copy_row (P := P) w t t ty e g (j + 1) (n - (j + 1)) (c - (j + 1)) ad (n - j) (c - j) cur e ((xs.drop j).take (n - (j + 1))) ht hs hg
      (by rw [hcl]; exact (Nat.min_eq_right (by omega)).symm)
      (fun i v hi => by
        rw [hadd, cell_blk hg]
        rw [List.getElem?_take] at hi
        split at hi
        · rw [List.getElem?_drop, ← htk, List.getElem?_take] at hi
          split at hi
          · simpa using hi
          · simp at hi
        · simp at hi)
      (by rw [hcl]; omega) (fun v hv => h1 v (List.mem_of_mem_drop (List.mem_of_mem_take hv)))
    refine ⟨_, by rw [e1, e2, hr, hcl], ⟨?_, .inr ⟨g, c, _, rfl, Nat.zero_le _, setRow_heap w g cur _ e _ hg, hn, hcm, ?_, ?_⟩⟩, ⟨rfl, rfl, rfl, by simp, fun k _ hk => setRow_other w g k _ hk⟩⟩
    · simp only [List.length_append, List.length_take, List.length_drop]; omega
    · simp only [List.size_toArray, List.length_append, List.length_take, List.length_drop, Array.length_toList, hcl]; omega
    · simp only [Nat.mul_one]
      have hlen : (xs.take (j + 1) ++ (xs.drop j).take (n - (j + 1))).length = n := by simp only [List.length_append, List.length_take, List.length_drop]; omega
      have hx : cur.toList.take (j + 1) = xs.take (j + 1) := by rw [← htk, List.take_take, Nat.min_eq_left (by omega)]
      rw [hx]
      exact List.take_left' hlen

theorem ownsRow_set {w : World} {e g n c j : Nat} {xs : List Value} (h : w.ownsRow 0 e 1 (.slice (some ⟨g, 0, none⟩) n c) n xs) (_ : j < n) (v : Value) :
    (w.setCell ⟨g, j, none⟩ v).ownsRow 0 e 1 (.slice (some ⟨g, 0, none⟩) n c) n (xs.set j v) := by
  obtain ⟨hl, ⟨hv, _⟩ | ⟨g', cap, cur, hv, _, hg, hn, hcm, hcs, htk⟩⟩ := h
  · simp at hv
  simp only [Value.slice.injEq, Option.some.injEq, Addr.mk.injEq] at hv
  obtain ⟨⟨rfl, _⟩, _, rfl⟩ := hv
  refine ⟨by simpa using hl, .inr ⟨g, c, cur.setIfInBounds j v, rfl, Nat.zero_le _, heap_setCell_at hg, hn, hcm, by simpa using hcs, ?_⟩⟩
  simp only [Nat.mul_one] at htk ⊢
  rw [Array.toList_setIfInBounds, ← htk, List.take_set]

theorem wp_copy_run {P : Program} {w : World} {o : Oper} {a : Act} {K : Act → World → Prop} {Q : Exit → Act → World → Prop} (d s : Operand) (t : TypeId)
    (ho : o.op = .call { callee := .builtin .copy, args := #[d, s], argTypes := #[t, t] })
    {v u r : Value} {w' : World} (hs : a.eval d = v) (hx : a.eval s = u) (hr' : (Builtin.copy_ #[t, t] o.type #[v, u]).run P w = .ok r w') (h : K (a.put o.dst r) w') : o.wp P a w K Q := by
  unfold Oper.wp
  simp only [execOp, ho, resolve, invoke, builtin, hs, hx, List.map_toArray, List.map_cons, List.map_nil, Sem.run_bind, hr', Result.andThen, Sem.run_pure, Oper.upon]
  exact h
end Go.Proofs.YtnjaaagiindclaaGreatDoor
