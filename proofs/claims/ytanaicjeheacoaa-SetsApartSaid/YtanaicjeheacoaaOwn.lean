/-
  Sets of the call's own: what each word answers.
-/
import Derived.Test.YtanaicjeheacoaaPutOk
namespace Go.Proofs.Ytanaicjeheacoaa
open Go.RowKit Go.Deep

theorem Is.mono {w : World} {s : Nat} {L : List It} {F G : Nat → Prop} (h : Is w s L F) (hFG : ∀ b, F b → G b) : Is w s L G := by
  obtain ⟨m1, m2, m3, i1, i2, i3, h1, h2⟩ := h
  exact ⟨m1, m2, m3, i1, i2, i3, h1, fun b hb => hFG b (h2 b hb)⟩

theorem Is.quiet {w w' : World} {s : Nat} {L : List It} {F : Nat → Prop} (h : Is w s L F) (hf : Fr (fun _ => False) w w') : Is w' s L F := by
  obtain ⟨m1, m2, m3, i1, i2, i3, h1, h2⟩ := h
  exact ⟨m1, m2, m3, i1, i2, i3, ⟨h1.core.quiet hf, h1.ids.fr hf (fun x => x), h1.bases.fr hf (fun x => x), h1.idsL, h1.basesL, h1.ndI, h1.sepM⟩, h2⟩

/-- sets in blocks from B on; below B the memory is that of w0 -/
structure Own (B s : Nat) (L : List It) (w0 w : World) : Prop where
  is : Is w s L (fun b => B ≤ b)
  fr : Fr (fun b => B ≤ b) w0 w
  le : B ≤ w.heap.size

theorem Own.quiet {B s : Nat} {L : List It} {w0 w w' : World} (h : Own B s L w0 w) (hf : Fr (fun _ => False) w w') : Own B s L w0 w' :=
  ⟨h.is.quiet hf, h.fr.trans hf (fun _ _ => False.elim), Nat.le_trans h.le hf.size⟩

theorem Own.next {B s : Nat} {L L' : List It} {w0 w w' : World} (h : Own B s L w0 w) (hi : Is w' s L' (fun b => B ≤ b ∨ w.heap.size ≤ b)) (hf : Fr (fun b => B ≤ b) w w') : Own B s L' w0 w' :=
  ⟨hi.mono (fun b hb => hb.elim (fun h => h) (fun h1 => Nat.le_trans h.le h1)), h.fr.trans hf (fun _ _ h => h), Nat.le_trans h.le hf.size⟩

theorem Own.done {s : Nat} {L : List It} {w w' : World} (h : Own w.heap.size s L w w') : Fr (fun _ => False) w w' := h.fr.mono (fun b hb h => by omega)

/-- what Put answers, and what is there then -/
def Puts (L : List It) (id base cls : Int) (np fu sw : Bool) (c : Int) (L' : List It) : Prop :=
  ((id < 1 ∨ cls < 0 ∨ 68 ≤ cls) ∧ c = 1 ∧ L' = L) ∨ ((1 ≤ id ∧ 0 ≤ cls ∧ cls < 68) ∧ (∃ x ∈ L, x.id = id ∨ x.base = base) ∧ c = 34 ∧ L' = L) ∨
  ((1 ≤ id ∧ 0 ≤ cls ∧ cls < 68) ∧ (∀ x ∈ L, x.id ≠ id) ∧ (∀ x ∈ L, x.base ≠ base) ∧ c = 0 ∧ ∃ b, L' = L ++ [⟨b, id, base, (cls, np, fu, sw)⟩])

theorem put_any {B s : Nat} {L : List It} {w0 w : World} (h : Own B s L w0 w) (id base cls : Int) (np fu sw : Bool) (hL : L.length ≤ 1000000) :
    Calls Try.prog 8 #[.pointer (some ⟨s, 0, none⟩), .int .i64 id, .int .u64 base, .int .i64 cls, .bool np, .bool fu, .bool sw] w fun e w' =>
      ∃ c L', e = .returned (.int .i64 c) ∧ Hid (Own B s L' w0 w' ∧ Puts L id base cls np fu sw c L') := by
  by_cases h1 : id < 1 ∨ cls < 0 ∨ 68 ≤ cls
  · refine (put_arg s w id base cls np fu sw h1).mono fun e w' ⟨he, hw⟩ => ?_
    subst hw
    exact ⟨1, L, he, Lib.hid ⟨h, .inl ⟨h1, rfl, rfl⟩⟩⟩
  · by_cases h2 : ∃ x ∈ L, x.id = id ∨ x.base = base
    · refine (put_twice w h.is id base cls np fu sw (by omega) (by omega) h2).mono fun e w' ⟨he, hw⟩ => ?_
      subst hw
      exact ⟨34, L, he, Lib.hid ⟨h, .inr (.inl ⟨by omega, h2, rfl, rfl⟩)⟩⟩
    · have hI : ∀ y ∈ L, y.id ≠ id := fun y hy he => h2 ⟨y, hy, .inl he⟩
      have hB : ∀ y ∈ L, y.base ≠ base := fun y hy he => h2 ⟨y, hy, .inr he⟩
      refine (put_ok w h.is id base cls np fu sw (by omega) (by omega) hI hB hL).mono fun e w' ⟨he, hi, hf⟩ => ?_
      exact ⟨0, _, he, Lib.hid ⟨h.next hi hf, .inr (.inr ⟨by omega, hI, hB, rfl, _, rfl⟩)⟩⟩

theorem takes {B s : Nat} {L : List It} {w0 w : World} (h : Own B s L w0 w) (k1 : Int) (k2 k3 k4 : Bool) (hL : L.length ≤ 1000000) :
    Calls Try.prog 9 #[.pointer (some ⟨s, 0, none⟩), .int .i64 k1, .bool k2, .bool k3, .bool k4] w fun e w' =>
      ∃ id ok L', e = .returned (.tuple #[.int .i64 id, .bool ok]) ∧ Hid (Own B s L' w0 w' ∧ Took L (k1, k2, k3, k4) id ok L') :=
  (take_any w h.is k1 k2 k3 k4 hL).mono fun e w' ⟨id, ok, L', he, ht, hi, hf⟩ => ⟨id, ok, L', he, Lib.hid ⟨h.next hi hf, ht⟩⟩

/-- what Remove answers, and what is left -/
def Removes (L : List It) (id : Int) (c : Int) (L' : List It) : Prop :=
  (c = 35 ∧ L' = L ∧ ∀ x ∈ L, x.id ≠ id) ∨ (c = 0 ∧ (∃ x ∈ L, x.id = id) ∧ L' = L.filter (fun y => decide (y.id ≠ id)))

theorem removes {B s : Nat} {L : List It} {w0 w : World} (h : Own B s L w0 w) (id : Int) (hL : L.length ≤ 1000000) :
    Calls Try.prog 11 #[.pointer (some ⟨s, 0, none⟩), .int .i64 id] w fun e w' => ∃ c L', e = .returned (.int .i64 c) ∧ Hid (Own B s L' w0 w' ∧ Removes L id c L') := by
  by_cases hx : ∃ x ∈ L, x.id = id
  · obtain ⟨x, hx, rfl⟩ := hx
    exact (remove_ok w h.is x hx hL).mono fun e w' ⟨he, hi, hf⟩ => ⟨0, _, he, Lib.hid ⟨h.next hi hf, .inr ⟨rfl, ⟨x, hx, rfl⟩, rfl⟩⟩⟩
  · obtain ⟨m1, m2, m3, i1, i2, i3, h1, h2⟩ := h.is
    refine (remove_none w h1 id (fun y hy he => hx ⟨y, hy, he⟩)).mono fun e w' ⟨he, hw⟩ => ?_
    subst hw
    exact ⟨35, L, he, Lib.hid ⟨h, .inl ⟨rfl, rfl, fun y hy he => hx ⟨y, hy, he⟩⟩⟩⟩

theorem counts {B s : Nat} {L : List It} {w0 w : World} (h : Own B s L w0 w) (b : Bool) (hL : L.length ≤ 1000000) :
    Calls Try.prog 14 #[.pointer (some ⟨s, 0, none⟩), .bool b] w fun e w' => e = .returned (.int .i64 (num L b)) ∧ Hid (Own B s L w0 w') := by
  obtain ⟨m1, m2, m3, i1, i2, i3, h1, h2⟩ := id h.is
  exact (count_any w h1.core b hL).mono fun e w' ⟨he, hf⟩ => ⟨he, Lib.hid (h.quiet hf)⟩

theorem leasts {B s : Nat} {L : List It} {w0 w : World} (h : Own B s L w0 w) (hL : L.length ≤ 1000000) :
    Calls Try.prog 10 #[.pointer (some ⟨s, 0, none⟩)] w fun e w' => ∃ id ok, e = .returned (.tuple #[.int .i64 id, .bool ok]) ∧ Hid (Own B s L w0 w' ∧ Leasts L id ok) := by
  obtain ⟨m1, m2, m3, i1, i2, i3, h1, h2⟩ := id h.is
  exact (least_any w h1.core hL).mono fun e w' ⟨id, ok, he, hl, hf⟩ => ⟨id, ok, he, Lib.hid ⟨h.quiet hf, hl⟩⟩

theorem news (w : World) : Calls Try.prog 7 #[] w fun e w' => ∃ s, e = .returned (.pointer (some ⟨s, 0, none⟩)) ∧ Hid (Own w.heap.size s [] w w') :=
  (new_any w).mono fun e w' ⟨s, he, hi, hf⟩ => ⟨s, he, Lib.hid ⟨hi, hf.mono (fun _ _ => False.elim), hf.size⟩⟩
end Go.Proofs.Ytanaicjeheacoaa
