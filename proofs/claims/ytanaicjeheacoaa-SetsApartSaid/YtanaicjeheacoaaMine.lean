/-
  Sets whose blocks a predicate names: what each word answers, and what it leaves.
-/
import Derived.Test.YtanaicjeheacoaaFlipOk
namespace Go.Proofs.Ytanaicjeheacoaa
open Go.RowKit Go.Deep

/-- sets of which F names the blocks, all of them there -/
structure Mine (w : World) (s : Nat) (L : List It) (F : Nat → Prop) : Prop where
  is : Is w s L F
  lt : ∀ b, F b → b < w.heap.size

/-- from w to w', what F names may have turned; F' names no more than that and new blocks -/
structure Step (F F' : Nat → Prop) (w w' : World) : Prop where
  fr : Fr F w w'
  new : ∀ b, F' b → F b ∨ w.heap.size ≤ b

theorem Is.ids {w : World} {s : Nat} {L : List It} {F : Nat → Prop} (h : Is w s L F) : (L.map (·.id)).Nodup := by
  obtain ⟨m1, m2, m3, i1, i2, i3, h1, h2⟩ := h; exact h1.ndI
theorem Is.bases {w : World} {s : Nat} {L : List It} {F : Nat → Prop} (h : Is w s L F) : (L.map (·.base)).Nodup := by
  obtain ⟨m1, m2, m3, i1, i2, i3, h1, h2⟩ := h; exact h1.core.ndB

theorem sfp_lt {w : World} {s m1 m2 m3 : Nat} {i1 i2 : List (Int × Value)} {i3 : List (Kd × Value)} {L : List It} (h : Sets w s m1 m2 m3 i1 i2 i3 L) : ∀ b, sfp s m1 m2 m3 i3 L b → b < w.heap.size := by
  rintro b (rfl | rfl | rfl | rfl | ⟨x, hx, rfl⟩ | ⟨k, v, hm, hb⟩)
  · exact lt_blk h.core.root
  · exact h.ids.lt
  · exact h.bases.lt
  · exact h.core.sets.lt
  · exact lt_blk (h.core.node x hx)
  · obtain ⟨r, _, ho⟩ := h.core.row k v hm
    obtain ⟨cur, hc⟩ := ownsRow_blk ho hb
    exact lt_blk hc

theorem Mine.quiet {w w' : World} {s : Nat} {L : List It} {F : Nat → Prop} (h : Mine w s L F) (hf : Fr (fun _ => False) w w') : Mine w' s L F :=
  ⟨h.is.quiet hf, fun b hb => Nat.lt_of_lt_of_le (h.lt b hb) hf.size⟩

theorem sfp_keep {w w' : World} {s m1 m2 m3 : Nat} {i1 i2 : List (Int × Value)} {i3 : List (Kd × Value)} {L : List It} {S : Nat → Prop} (h : Sets w s m1 m2 m3 i1 i2 i3 L) (hf : Fr S w w') (hS : ∀ b, sfp s m1 m2 m3 i3 L b → ¬ S b) : Sets w' s m1 m2 m3 i1 i2 i3 L :=
  ⟨h.core.keep hf (hS _ (.inl rfl)) (hS _ (.inr (.inr (.inr (.inl rfl))))) (fun x hx => hS _ (.inr (.inr (.inr (.inr (.inl ⟨x, hx, rfl⟩)))))) (fun k v g hm hg => hS _ (.inr (.inr (.inr (.inr (.inr ⟨k, v, hm, hg⟩)))))),
    h.ids.fr hf (hS _ (.inr (.inl rfl))), h.bases.fr hf (hS _ (.inr (.inr (.inl rfl)))), h.idsL, h.basesL, h.ndI, h.sepM⟩

/-- what others do leaves the sets -/
theorem Mine.keep {w w' : World} {s : Nat} {L : List It} {F S : Nat → Prop} (h : Mine w s L F) (hf : Fr S w w') (hS : ∀ b, F b → ¬ S b) : Mine w' s L F := by
  obtain ⟨m1, m2, m3, i1, i2, i3, h1, h2⟩ := h.is
  exact ⟨⟨m1, m2, m3, i1, i2, i3, sfp_keep h1 hf (fun b hb => hS b (h2 b hb)), h2⟩, fun b hb => Nat.lt_of_lt_of_le (h.lt b hb) hf.size⟩

theorem Mine.next {w w' : World} {s : Nat} {L' : List It} {F : Nat → Prop} (hi : Is w' s L' (fun b => F b ∨ w.heap.size ≤ b)) (hf : Fr F w w') : ∃ F', Mine w' s L' F' ∧ Step F F' w w' := by
  obtain ⟨m1, m2, m3, i1, i2, i3, h1, h2⟩ := hi
  exact ⟨sfp s m1 m2 m3 i3 L', ⟨⟨m1, m2, m3, i1, i2, i3, h1, fun b hb => hb⟩, sfp_lt h1⟩, hf, h2⟩

theorem Step.none {F : Nat → Prop} {w w' : World} (hf : Fr (fun _ => False) w w') : Step F F w w' := ⟨hf.mono (fun _ _ => False.elim), fun _ h => .inl h⟩
theorem Step.trans {F F' F'' : Nat → Prop} {w w' w'' : World} (h : Step F F' w w') (h' : Step F' F'' w' w'') : Step F F'' w w'' :=
  ⟨h.fr.trans h'.fr (fun b hb h2 => (h.new b h2).elim id (fun h3 => by omega)), fun b hb => (h'.new b hb).elim (h.new b) (fun h2 => .inr (Nat.le_trans h.fr.size h2))⟩

/-- the sets are at L' -/
def Now (w : World) (s : Nat) (L' : List It) (F : Nat → Prop) (w' : World) : Prop := ∃ F', Mine w' s L' F' ∧ Step F F' w w'

theorem new_m (w : World) : Calls Try.prog 7 #[] w fun e w' => ∃ s, e = .returned (.pointer (some ⟨s, 0, none⟩)) ∧ Hid (Now w s [] (fun _ => False) w') :=
  (new_any w).mono fun e w' ⟨s, he, hi, hf⟩ => ⟨s, he, Lib.hid (Mine.next (F := fun _ => False) (hi.mono (fun b hb => .inr hb)) hf)⟩

theorem put_m {s : Nat} {L : List It} {F : Nat → Prop} {w : World} (h : Mine w s L F) (id base cls : Int) (np fu sw : Bool) (hL : L.length ≤ 1000000) :
    Calls Try.prog 8 #[.pointer (some ⟨s, 0, none⟩), .int .i64 id, .int .u64 base, .int .i64 cls, .bool np, .bool fu, .bool sw] w fun e w' =>
      ∃ c L', e = .returned (.int .i64 c) ∧ Hid (Now w s L' F w' ∧ Puts L id base cls np fu sw c L') := by
  by_cases h1 : id < 1 ∨ cls < 0 ∨ 68 ≤ cls
  · refine (put_arg s w id base cls np fu sw h1).mono fun e w' ⟨he, hw⟩ => ?_
    subst hw
    exact ⟨1, L, he, Lib.hid ⟨⟨F, h, Step.none (Fr.refl _ _)⟩, .inl ⟨h1, rfl, rfl⟩⟩⟩
  · by_cases h2 : ∃ x ∈ L, x.id = id ∨ x.base = base
    · refine (put_twice w h.is id base cls np fu sw (by omega) (by omega) h2).mono fun e w' ⟨he, hw⟩ => ?_
      subst hw
      exact ⟨34, L, he, Lib.hid ⟨⟨F, h, Step.none (Fr.refl _ _)⟩, .inr (.inl ⟨by omega, h2, rfl, rfl⟩)⟩⟩
    · have hI : ∀ y ∈ L, y.id ≠ id := fun y hy he => h2 ⟨y, hy, .inl he⟩
      have hB : ∀ y ∈ L, y.base ≠ base := fun y hy he => h2 ⟨y, hy, .inr he⟩
      refine (put_ok w h.is id base cls np fu sw (by omega) (by omega) hI hB hL).mono fun e w' ⟨he, hi, hf⟩ => ?_
      exact ⟨0, _, he, Lib.hid ⟨Mine.next hi hf, .inr (.inr ⟨by omega, hI, hB, rfl, _, rfl⟩)⟩⟩

theorem take_m {s : Nat} {L : List It} {F : Nat → Prop} {w : World} (h : Mine w s L F) (k1 : Int) (k2 k3 k4 : Bool) (hL : L.length ≤ 1000000) :
    Calls Try.prog 9 #[.pointer (some ⟨s, 0, none⟩), .int .i64 k1, .bool k2, .bool k3, .bool k4] w fun e w' =>
      ∃ id ok L', e = .returned (.tuple #[.int .i64 id, .bool ok]) ∧ Hid (Now w s L' F w' ∧ Took L (k1, k2, k3, k4) id ok L') :=
  (take_any w h.is k1 k2 k3 k4 hL).mono fun e w' ⟨id, ok, L', he, ht, hi, hf⟩ => ⟨id, ok, L', he, Lib.hid ⟨Mine.next hi hf, ht⟩⟩

theorem remove_m {s : Nat} {L : List It} {F : Nat → Prop} {w : World} (h : Mine w s L F) (id : Int) (hL : L.length ≤ 1000000) :
    Calls Try.prog 11 #[.pointer (some ⟨s, 0, none⟩), .int .i64 id] w fun e w' => ∃ c L', e = .returned (.int .i64 c) ∧ Hid (Now w s L' F w' ∧ Removes L id c L') := by
  by_cases hx : ∃ x ∈ L, x.id = id
  · obtain ⟨x, hx, rfl⟩ := hx
    exact (remove_ok w h.is x hx hL).mono fun e w' ⟨he, hi, hf⟩ => ⟨0, _, he, Lib.hid ⟨Mine.next hi hf, .inr ⟨rfl, ⟨x, hx, rfl⟩, rfl⟩⟩⟩
  · obtain ⟨m1, m2, m3, i1, i2, i3, h1, h2⟩ := h.is
    refine (remove_none w h1 id (fun y hy he => hx ⟨y, hy, he⟩)).mono fun e w' ⟨he, hw⟩ => ?_
    subst hw
    exact ⟨35, L, he, Lib.hid ⟨⟨F, h, Step.none (Fr.refl _ _)⟩, .inl ⟨rfl, rfl, fun y hy he => hx ⟨y, hy, he⟩⟩⟩⟩

theorem count_m {s : Nat} {L : List It} {F : Nat → Prop} {w : World} (h : Mine w s L F) (b : Bool) (hL : L.length ≤ 1000000) :
    Calls Try.prog 14 #[.pointer (some ⟨s, 0, none⟩), .bool b] w fun e w' => e = .returned (.int .i64 (num L b)) ∧ Hid (Fr (fun _ => False) w w') := by
  obtain ⟨m1, m2, m3, i1, i2, i3, h1, h2⟩ := h.is
  exact (count_any w h1.core b hL).mono fun e w' ⟨he, hf⟩ => ⟨he, Lib.hid hf⟩

theorem least_m {s : Nat} {L : List It} {F : Nat → Prop} {w : World} (h : Mine w s L F) (hL : L.length ≤ 1000000) :
    Calls Try.prog 10 #[.pointer (some ⟨s, 0, none⟩)] w fun e w' => ∃ id ok, e = .returned (.tuple #[.int .i64 id, .bool ok]) ∧ Hid (Fr (fun _ => False) w w' ∧ Leasts L id ok) := by
  obtain ⟨m1, m2, m3, i1, i2, i3, h1, h2⟩ := h.is
  exact (least_any w h1.core hL).mono fun e w' ⟨id, ok, he, hl, hf⟩ => ⟨id, ok, he, Lib.hid ⟨hf, hl⟩⟩

/-- what Flip answers, and what is there then -/
def Flips (L : List It) (c : Int) (L' : List It) : Prop := (0 < num L false ∧ c = 33 ∧ L' = L) ∨ (num L false = 0 ∧ c = 0 ∧ L' = L.map It.turned)

theorem flip_m {s : Nat} {L : List It} {F : Nat → Prop} {w : World} (h : Mine w s L F) (hL : L.length ≤ 1000000) :
    Calls Try.prog 16 #[.pointer (some ⟨s, 0, none⟩)] w fun e w' => ∃ c L', e = .returned (.int .i64 c) ∧ Hid (Now w s L' F w' ∧ Flips L c L') := by
  by_cases hn : num L false = 0
  · exact (flip_ok w h.is hL hn).mono fun e w' ⟨he, hi, hf⟩ => ⟨0, _, he, Lib.hid ⟨Mine.next hi hf, .inr ⟨hn, rfl, rfl⟩⟩⟩
  · exact (flip_busy w h.is hL (by omega)).mono fun e w' ⟨he, hf⟩ => ⟨33, L, he, Lib.hid ⟨⟨F, h.quiet hf, Step.none hf⟩, .inl ⟨by omega, rfl, rfl⟩⟩⟩
end Go.Proofs.Ytanaicjeheacoaa
