/-
  Part 3 of what the statement leans on: Slot.
-/
import Derived.Test.YtnjaaagiindclaaGreatDoorPk2
/-
  SX: slots. No program in sight. (Printed by bin/gen_slot.py.)
-/
namespace Go.Proofs.YtnjaaagiindclaaGreatDoor
open Go.RowKit Go.Deep
namespace SX
structure R8 where
  (a b c d e f g h : SV)
structure Q8 where
  (a b c d e f g h : R8)
structure Slots where
  n : Nat
  (a b c d : Q8)
def R8.all (v : SV) : R8 := ⟨v, v, v, v, v, v, v, v⟩
def Q8.all (v : R8) : Q8 := ⟨v, v, v, v, v, v, v, v⟩
def Slots.all (n : Nat) (v : Q8) : Slots := ⟨n, v, v, v, v⟩

def R8.get (i : Nat) (r : R8) : SV := match i with
  | 0 => r.a
  | 1 => r.b
  | 2 => r.c
  | 3 => r.d
  | 4 => r.e
  | 5 => r.f
  | 6 => r.g
  | 7 => r.h
  | _ => .junk
def R8.set (i : Nat) (r : R8) (v : SV) : R8 := match i with
  | 0 => { r with a := v }
  | 1 => { r with b := v }
  | 2 => { r with c := v }
  | 3 => { r with d := v }
  | 4 => { r with e := v }
  | 5 => { r with f := v }
  | 6 => { r with g := v }
  | 7 => { r with h := v }
  | _ => r
theorem R8.get_set : ∀ (i : Nat) (r : R8) (v : SV), R8.get i (R8.set i r v) = v ∨ 8 ≤ i
  | 0, _, _ => .inl rfl
  | 1, _, _ => .inl rfl
  | 2, _, _ => .inl rfl
  | 3, _, _ => .inl rfl
  | 4, _, _ => .inl rfl
  | 5, _, _ => .inl rfl
  | 6, _, _ => .inl rfl
  | 7, _, _ => .inl rfl
  | _ + 8, _, _ => .inr (by omega)
theorem R8.get_set_ne : ∀ (i j : Nat) (r : R8) (v : SV), i ≠ j → R8.get i (R8.set j r v) = R8.get i r
  | 1, 0, _, _, _ => rfl
  | 2, 0, _, _, _ => rfl
  | 3, 0, _, _, _ => rfl
  | 4, 0, _, _, _ => rfl
  | 5, 0, _, _, _ => rfl
  | 6, 0, _, _, _ => rfl
  | 7, 0, _, _, _ => rfl
  | 0, 0, _, _, h => absurd rfl h
  | _ + 8, 0, _, _, _ => rfl
  | 0, 1, _, _, _ => rfl
  | 2, 1, _, _, _ => rfl
  | 3, 1, _, _, _ => rfl
  | 4, 1, _, _, _ => rfl
  | 5, 1, _, _, _ => rfl
  | 6, 1, _, _, _ => rfl
  | 7, 1, _, _, _ => rfl
  | 1, 1, _, _, h => absurd rfl h
  | _ + 8, 1, _, _, _ => rfl
  | 0, 2, _, _, _ => rfl
  | 1, 2, _, _, _ => rfl
  | 3, 2, _, _, _ => rfl
  | 4, 2, _, _, _ => rfl
  | 5, 2, _, _, _ => rfl
  | 6, 2, _, _, _ => rfl
  | 7, 2, _, _, _ => rfl
  | 2, 2, _, _, h => absurd rfl h
  | _ + 8, 2, _, _, _ => rfl
  | 0, 3, _, _, _ => rfl
  | 1, 3, _, _, _ => rfl
  | 2, 3, _, _, _ => rfl
  | 4, 3, _, _, _ => rfl
  | 5, 3, _, _, _ => rfl
  | 6, 3, _, _, _ => rfl
  | 7, 3, _, _, _ => rfl
  | 3, 3, _, _, h => absurd rfl h
  | _ + 8, 3, _, _, _ => rfl
  | 0, 4, _, _, _ => rfl
  | 1, 4, _, _, _ => rfl
  | 2, 4, _, _, _ => rfl
  | 3, 4, _, _, _ => rfl
  | 5, 4, _, _, _ => rfl
  | 6, 4, _, _, _ => rfl
  | 7, 4, _, _, _ => rfl
  | 4, 4, _, _, h => absurd rfl h
  | _ + 8, 4, _, _, _ => rfl
  | 0, 5, _, _, _ => rfl
  | 1, 5, _, _, _ => rfl
  | 2, 5, _, _, _ => rfl
  | 3, 5, _, _, _ => rfl
  | 4, 5, _, _, _ => rfl
  | 6, 5, _, _, _ => rfl
  | 7, 5, _, _, _ => rfl
  | 5, 5, _, _, h => absurd rfl h
  | _ + 8, 5, _, _, _ => rfl
  | 0, 6, _, _, _ => rfl
  | 1, 6, _, _, _ => rfl
  | 2, 6, _, _, _ => rfl
  | 3, 6, _, _, _ => rfl
  | 4, 6, _, _, _ => rfl
  | 5, 6, _, _, _ => rfl
  | 7, 6, _, _, _ => rfl
  | 6, 6, _, _, h => absurd rfl h
  | _ + 8, 6, _, _, _ => rfl
  | 0, 7, _, _, _ => rfl
  | 1, 7, _, _, _ => rfl
  | 2, 7, _, _, _ => rfl
  | 3, 7, _, _, _ => rfl
  | 4, 7, _, _, _ => rfl
  | 5, 7, _, _, _ => rfl
  | 6, 7, _, _, _ => rfl
  | 7, 7, _, _, h => absurd rfl h
  | _ + 8, 7, _, _, _ => rfl
  | _, _ + 8, _, _, _ => rfl
theorem R8.get_out : ∀ (i : Nat) (r : R8), 8 ≤ i → R8.get i r = .junk
  | _ + 8, _, _ => rfl
  | 0, _, h => absurd h (by omega)
  | 1, _, h => absurd h (by omega)
  | 2, _, h => absurd h (by omega)
  | 3, _, h => absurd h (by omega)
  | 4, _, h => absurd h (by omega)
  | 5, _, h => absurd h (by omega)
  | 6, _, h => absurd h (by omega)
  | 7, _, h => absurd h (by omega)
def Q8.get (i : Nat) (r : Q8) : R8 := match i with
  | 0 => r.a
  | 1 => r.b
  | 2 => r.c
  | 3 => r.d
  | 4 => r.e
  | 5 => r.f
  | 6 => r.g
  | 7 => r.h
  | _ => .all .junk
def Q8.set (i : Nat) (r : Q8) (v : R8) : Q8 := match i with
  | 0 => { r with a := v }
  | 1 => { r with b := v }
  | 2 => { r with c := v }
  | 3 => { r with d := v }
  | 4 => { r with e := v }
  | 5 => { r with f := v }
  | 6 => { r with g := v }
  | 7 => { r with h := v }
  | _ => r
theorem Q8.get_set : ∀ (i : Nat) (r : Q8) (v : R8), Q8.get i (Q8.set i r v) = v ∨ 8 ≤ i
  | 0, _, _ => .inl rfl
  | 1, _, _ => .inl rfl
  | 2, _, _ => .inl rfl
  | 3, _, _ => .inl rfl
  | 4, _, _ => .inl rfl
  | 5, _, _ => .inl rfl
  | 6, _, _ => .inl rfl
  | 7, _, _ => .inl rfl
  | _ + 8, _, _ => .inr (by omega)
theorem Q8.get_set_ne : ∀ (i j : Nat) (r : Q8) (v : R8), i ≠ j → Q8.get i (Q8.set j r v) = Q8.get i r
  | 1, 0, _, _, _ => rfl
  | 2, 0, _, _, _ => rfl
  | 3, 0, _, _, _ => rfl
  | 4, 0, _, _, _ => rfl
  | 5, 0, _, _, _ => rfl
  | 6, 0, _, _, _ => rfl
  | 7, 0, _, _, _ => rfl
  | 0, 0, _, _, h => absurd rfl h
  | _ + 8, 0, _, _, _ => rfl
  | 0, 1, _, _, _ => rfl
  | 2, 1, _, _, _ => rfl
  | 3, 1, _, _, _ => rfl
  | 4, 1, _, _, _ => rfl
  | 5, 1, _, _, _ => rfl
  | 6, 1, _, _, _ => rfl
  | 7, 1, _, _, _ => rfl
  | 1, 1, _, _, h => absurd rfl h
  | _ + 8, 1, _, _, _ => rfl
  | 0, 2, _, _, _ => rfl
  | 1, 2, _, _, _ => rfl
  | 3, 2, _, _, _ => rfl
  | 4, 2, _, _, _ => rfl
  | 5, 2, _, _, _ => rfl
  | 6, 2, _, _, _ => rfl
  | 7, 2, _, _, _ => rfl
  | 2, 2, _, _, h => absurd rfl h
  | _ + 8, 2, _, _, _ => rfl
  | 0, 3, _, _, _ => rfl
  | 1, 3, _, _, _ => rfl
  | 2, 3, _, _, _ => rfl
  | 4, 3, _, _, _ => rfl
  | 5, 3, _, _, _ => rfl
  | 6, 3, _, _, _ => rfl
  | 7, 3, _, _, _ => rfl
  | 3, 3, _, _, h => absurd rfl h
  | _ + 8, 3, _, _, _ => rfl
  | 0, 4, _, _, _ => rfl
  | 1, 4, _, _, _ => rfl
  | 2, 4, _, _, _ => rfl
  | 3, 4, _, _, _ => rfl
  | 5, 4, _, _, _ => rfl
  | 6, 4, _, _, _ => rfl
  | 7, 4, _, _, _ => rfl
  | 4, 4, _, _, h => absurd rfl h
  | _ + 8, 4, _, _, _ => rfl
  | 0, 5, _, _, _ => rfl
  | 1, 5, _, _, _ => rfl
  | 2, 5, _, _, _ => rfl
  | 3, 5, _, _, _ => rfl
  | 4, 5, _, _, _ => rfl
  | 6, 5, _, _, _ => rfl
  | 7, 5, _, _, _ => rfl
  | 5, 5, _, _, h => absurd rfl h
  | _ + 8, 5, _, _, _ => rfl
  | 0, 6, _, _, _ => rfl
  | 1, 6, _, _, _ => rfl
  | 2, 6, _, _, _ => rfl
  | 3, 6, _, _, _ => rfl
  | 4, 6, _, _, _ => rfl
  | 5, 6, _, _, _ => rfl
  | 7, 6, _, _, _ => rfl
  | 6, 6, _, _, h => absurd rfl h
  | _ + 8, 6, _, _, _ => rfl
  | 0, 7, _, _, _ => rfl
  | 1, 7, _, _, _ => rfl
  | 2, 7, _, _, _ => rfl
  | 3, 7, _, _, _ => rfl
  | 4, 7, _, _, _ => rfl
  | 5, 7, _, _, _ => rfl
  | 6, 7, _, _, _ => rfl
  | 7, 7, _, _, h => absurd rfl h
  | _ + 8, 7, _, _, _ => rfl
  | _, _ + 8, _, _, _ => rfl
theorem Q8.get_out : ∀ (i : Nat) (r : Q8), 8 ≤ i → Q8.get i r = .all .junk
  | _ + 8, _, _ => rfl
  | 0, _, h => absurd h (by omega)
  | 1, _, h => absurd h (by omega)
  | 2, _, h => absurd h (by omega)
  | 3, _, h => absurd h (by omega)
  | 4, _, h => absurd h (by omega)
  | 5, _, h => absurd h (by omega)
  | 6, _, h => absurd h (by omega)
  | 7, _, h => absurd h (by omega)
def Slots.get (i : Nat) (r : Slots) : Q8 := match i with
  | 0 => r.a
  | 1 => r.b
  | 2 => r.c
  | 3 => r.d
  | _ => .all (.all .junk)
def Slots.set (i : Nat) (r : Slots) (v : Q8) : Slots := match i with
  | 0 => { r with a := v }
  | 1 => { r with b := v }
  | 2 => { r with c := v }
  | 3 => { r with d := v }
  | _ => r
theorem Slots.get_set : ∀ (i : Nat) (r : Slots) (v : Q8), Slots.get i (Slots.set i r v) = v ∨ 4 ≤ i
  | 0, _, _ => .inl rfl
  | 1, _, _ => .inl rfl
  | 2, _, _ => .inl rfl
  | 3, _, _ => .inl rfl
  | _ + 4, _, _ => .inr (by omega)
theorem Slots.get_set_ne : ∀ (i j : Nat) (r : Slots) (v : Q8), i ≠ j → Slots.get i (Slots.set j r v) = Slots.get i r
  | 1, 0, _, _, _ => rfl
  | 2, 0, _, _, _ => rfl
  | 3, 0, _, _, _ => rfl
  | 0, 0, _, _, h => absurd rfl h
  | _ + 4, 0, _, _, _ => rfl
  | 0, 1, _, _, _ => rfl
  | 2, 1, _, _, _ => rfl
  | 3, 1, _, _, _ => rfl
  | 1, 1, _, _, h => absurd rfl h
  | _ + 4, 1, _, _, _ => rfl
  | 0, 2, _, _, _ => rfl
  | 1, 2, _, _, _ => rfl
  | 3, 2, _, _, _ => rfl
  | 2, 2, _, _, h => absurd rfl h
  | _ + 4, 2, _, _, _ => rfl
  | 0, 3, _, _, _ => rfl
  | 1, 3, _, _, _ => rfl
  | 2, 3, _, _, _ => rfl
  | 3, 3, _, _, h => absurd rfl h
  | _ + 4, 3, _, _, _ => rfl
  | _, _ + 4, _, _, _ => rfl
theorem Slots.get_out : ∀ (i : Nat) (r : Slots), 4 ≤ i → Slots.get i r = .all (.all .junk)
  | _ + 4, _, _ => rfl
  | 0, _, h => absurd h (by omega)
  | 1, _, h => absurd h (by omega)
  | 2, _, h => absurd h (by omega)
  | 3, _, h => absurd h (by omega)
theorem Slots.set_n : ∀ (i : Nat) (r : Slots) (v : Q8), (Slots.set i r v).n = r.n
  | 0, _, _ => rfl
  | 1, _, _ => rfl
  | 2, _, _ => rfl
  | 3, _, _ => rfl
  | _ + 4, _, _ => rfl

/-- how a slot is read and written -/
structure Acc where
  g : Slots → SV
  s : Slots → SV → Slots
def accG (j : Nat) : Acc := ⟨fun s => R8.get (j % 8) (Q8.get (j / 8 % 8) (Slots.get (j / 64) s)), fun s v => Slots.set (j / 64) s (Q8.set (j / 8 % 8) (Slots.get (j / 64) s) (R8.set (j % 8) (Q8.get (j / 8 % 8) (Slots.get (j / 64) s)) v))⟩
def acc0 : Acc := ⟨fun _ => .junk, fun s _ => s⟩
noncomputable def accs0 : List Acc := [
  ⟨fun s => Slots.rec (motive := fun _ => SV) (fun _ a _ _ _ => Q8.rec (motive := fun _ => SV) (fun a _ _ _ _ _ _ _ => R8.rec (motive := fun _ => SV) (fun a _ _ _ _ _ _ _ => a) a) a) s, fun s v => Slots.rec (motive := fun _ => Slots) (fun n a b c d => ⟨n, Q8.rec (motive := fun _ => Q8) (fun a b c d e f g h => ⟨R8.rec (motive := fun _ => R8) (fun _ b c d e f g h => ⟨v, b, c, d, e, f, g, h⟩) a, b, c, d, e, f, g, h⟩) a, b, c, d⟩) s⟩,
  ⟨fun s => Slots.rec (motive := fun _ => SV) (fun _ a _ _ _ => Q8.rec (motive := fun _ => SV) (fun a _ _ _ _ _ _ _ => R8.rec (motive := fun _ => SV) (fun _ b _ _ _ _ _ _ => b) a) a) s, fun s v => Slots.rec (motive := fun _ => Slots) (fun n a b c d => ⟨n, Q8.rec (motive := fun _ => Q8) (fun a b c d e f g h => ⟨R8.rec (motive := fun _ => R8) (fun a _ c d e f g h => ⟨a, v, c, d, e, f, g, h⟩) a, b, c, d, e, f, g, h⟩) a, b, c, d⟩) s⟩,
  ⟨fun s => Slots.rec (motive := fun _ => SV) (fun _ a _ _ _ => Q8.rec (motive := fun _ => SV) (fun a _ _ _ _ _ _ _ => R8.rec (motive := fun _ => SV) (fun _ _ c _ _ _ _ _ => c) a) a) s, fun s v => Slots.rec (motive := fun _ => Slots) (fun n a b c d => ⟨n, Q8.rec (motive := fun _ => Q8) (fun a b c d e f g h => ⟨R8.rec (motive := fun _ => R8) (fun a b _ d e f g h => ⟨a, b, v, d, e, f, g, h⟩) a, b, c, d, e, f, g, h⟩) a, b, c, d⟩) s⟩,
  ⟨fun s => Slots.rec (motive := fun _ => SV) (fun _ a _ _ _ => Q8.rec (motive := fun _ => SV) (fun a _ _ _ _ _ _ _ => R8.rec (motive := fun _ => SV) (fun _ _ _ d _ _ _ _ => d) a) a) s, fun s v => Slots.rec (motive := fun _ => Slots) (fun n a b c d => ⟨n, Q8.rec (motive := fun _ => Q8) (fun a b c d e f g h => ⟨R8.rec (motive := fun _ => R8) (fun a b c _ e f g h => ⟨a, b, c, v, e, f, g, h⟩) a, b, c, d, e, f, g, h⟩) a, b, c, d⟩) s⟩,
  ⟨fun s => Slots.rec (motive := fun _ => SV) (fun _ a _ _ _ => Q8.rec (motive := fun _ => SV) (fun a _ _ _ _ _ _ _ => R8.rec (motive := fun _ => SV) (fun _ _ _ _ e _ _ _ => e) a) a) s, fun s v => Slots.rec (motive := fun _ => Slots) (fun n a b c d => ⟨n, Q8.rec (motive := fun _ => Q8) (fun a b c d e f g h => ⟨R8.rec (motive := fun _ => R8) (fun a b c d _ f g h => ⟨a, b, c, d, v, f, g, h⟩) a, b, c, d, e, f, g, h⟩) a, b, c, d⟩) s⟩,
  ⟨fun s => Slots.rec (motive := fun _ => SV) (fun _ a _ _ _ => Q8.rec (motive := fun _ => SV) (fun a _ _ _ _ _ _ _ => R8.rec (motive := fun _ => SV) (fun _ _ _ _ _ f _ _ => f) a) a) s, fun s v => Slots.rec (motive := fun _ => Slots) (fun n a b c d => ⟨n, Q8.rec (motive := fun _ => Q8) (fun a b c d e f g h => ⟨R8.rec (motive := fun _ => R8) (fun a b c d e _ g h => ⟨a, b, c, d, e, v, g, h⟩) a, b, c, d, e, f, g, h⟩) a, b, c, d⟩) s⟩,
  ⟨fun s => Slots.rec (motive := fun _ => SV) (fun _ a _ _ _ => Q8.rec (motive := fun _ => SV) (fun a _ _ _ _ _ _ _ => R8.rec (motive := fun _ => SV) (fun _ _ _ _ _ _ g _ => g) a) a) s, fun s v => Slots.rec (motive := fun _ => Slots) (fun n a b c d => ⟨n, Q8.rec (motive := fun _ => Q8) (fun a b c d e f g h => ⟨R8.rec (motive := fun _ => R8) (fun a b c d e f _ h => ⟨a, b, c, d, e, f, v, h⟩) a, b, c, d, e, f, g, h⟩) a, b, c, d⟩) s⟩,
  ⟨fun s => Slots.rec (motive := fun _ => SV) (fun _ a _ _ _ => Q8.rec (motive := fun _ => SV) (fun a _ _ _ _ _ _ _ => R8.rec (motive := fun _ => SV) (fun _ _ _ _ _ _ _ h => h) a) a) s, fun s v => Slots.rec (motive := fun _ => Slots) (fun n a b c d => ⟨n, Q8.rec (motive := fun _ => Q8) (fun a b c d e f g h => ⟨R8.rec (motive := fun _ => R8) (fun a b c d e f g _ => ⟨a, b, c, d, e, f, g, v⟩) a, b, c, d, e, f, g, h⟩) a, b, c, d⟩) s⟩,
  ⟨fun s => Slots.rec (motive := fun _ => SV) (fun _ a _ _ _ => Q8.rec (motive := fun _ => SV) (fun _ b _ _ _ _ _ _ => R8.rec (motive := fun _ => SV) (fun a _ _ _ _ _ _ _ => a) b) a) s, fun s v => Slots.rec (motive := fun _ => Slots) (fun n a b c d => ⟨n, Q8.rec (motive := fun _ => Q8) (fun a b c d e f g h => ⟨a, R8.rec (motive := fun _ => R8) (fun _ b c d e f g h => ⟨v, b, c, d, e, f, g, h⟩) b, c, d, e, f, g, h⟩) a, b, c, d⟩) s⟩,
  ⟨fun s => Slots.rec (motive := fun _ => SV) (fun _ a _ _ _ => Q8.rec (motive := fun _ => SV) (fun _ b _ _ _ _ _ _ => R8.rec (motive := fun _ => SV) (fun _ b _ _ _ _ _ _ => b) b) a) s, fun s v => Slots.rec (motive := fun _ => Slots) (fun n a b c d => ⟨n, Q8.rec (motive := fun _ => Q8) (fun a b c d e f g h => ⟨a, R8.rec (motive := fun _ => R8) (fun a _ c d e f g h => ⟨a, v, c, d, e, f, g, h⟩) b, c, d, e, f, g, h⟩) a, b, c, d⟩) s⟩,
  ⟨fun s => Slots.rec (motive := fun _ => SV) (fun _ a _ _ _ => Q8.rec (motive := fun _ => SV) (fun _ b _ _ _ _ _ _ => R8.rec (motive := fun _ => SV) (fun _ _ c _ _ _ _ _ => c) b) a) s, fun s v => Slots.rec (motive := fun _ => Slots) (fun n a b c d => ⟨n, Q8.rec (motive := fun _ => Q8) (fun a b c d e f g h => ⟨a, R8.rec (motive := fun _ => R8) (fun a b _ d e f g h => ⟨a, b, v, d, e, f, g, h⟩) b, c, d, e, f, g, h⟩) a, b, c, d⟩) s⟩,
  ⟨fun s => Slots.rec (motive := fun _ => SV) (fun _ a _ _ _ => Q8.rec (motive := fun _ => SV) (fun _ b _ _ _ _ _ _ => R8.rec (motive := fun _ => SV) (fun _ _ _ d _ _ _ _ => d) b) a) s, fun s v => Slots.rec (motive := fun _ => Slots) (fun n a b c d => ⟨n, Q8.rec (motive := fun _ => Q8) (fun a b c d e f g h => ⟨a, R8.rec (motive := fun _ => R8) (fun a b c _ e f g h => ⟨a, b, c, v, e, f, g, h⟩) b, c, d, e, f, g, h⟩) a, b, c, d⟩) s⟩,
  ⟨fun s => Slots.rec (motive := fun _ => SV) (fun _ a _ _ _ => Q8.rec (motive := fun _ => SV) (fun _ b _ _ _ _ _ _ => R8.rec (motive := fun _ => SV) (fun _ _ _ _ e _ _ _ => e) b) a) s, fun s v => Slots.rec (motive := fun _ => Slots) (fun n a b c d => ⟨n, Q8.rec (motive := fun _ => Q8) (fun a b c d e f g h => ⟨a, R8.rec (motive := fun _ => R8) (fun a b c d _ f g h => ⟨a, b, c, d, v, f, g, h⟩) b, c, d, e, f, g, h⟩) a, b, c, d⟩) s⟩,
  ⟨fun s => Slots.rec (motive := fun _ => SV) (fun _ a _ _ _ => Q8.rec (motive := fun _ => SV) (fun _ b _ _ _ _ _ _ => R8.rec (motive := fun _ => SV) (fun _ _ _ _ _ f _ _ => f) b) a) s, fun s v => Slots.rec (motive := fun _ => Slots) (fun n a b c d => ⟨n, Q8.rec (motive := fun _ => Q8) (fun a b c d e f g h => ⟨a, R8.rec (motive := fun _ => R8) (fun a b c d e _ g h => ⟨a, b, c, d, e, v, g, h⟩) b, c, d, e, f, g, h⟩) a, b, c, d⟩) s⟩,
  ⟨fun s => Slots.rec (motive := fun _ => SV) (fun _ a _ _ _ => Q8.rec (motive := fun _ => SV) (fun _ b _ _ _ _ _ _ => R8.rec (motive := fun _ => SV) (fun _ _ _ _ _ _ g _ => g) b) a) s, fun s v => Slots.rec (motive := fun _ => Slots) (fun n a b c d => ⟨n, Q8.rec (motive := fun _ => Q8) (fun a b c d e f g h => ⟨a, R8.rec (motive := fun _ => R8) (fun a b c d e f _ h => ⟨a, b, c, d, e, f, v, h⟩) b, c, d, e, f, g, h⟩) a, b, c, d⟩) s⟩,
  ⟨fun s => Slots.rec (motive := fun _ => SV) (fun _ a _ _ _ => Q8.rec (motive := fun _ => SV) (fun _ b _ _ _ _ _ _ => R8.rec (motive := fun _ => SV) (fun _ _ _ _ _ _ _ h => h) b) a) s, fun s v => Slots.rec (motive := fun _ => Slots) (fun n a b c d => ⟨n, Q8.rec (motive := fun _ => Q8) (fun a b c d e f g h => ⟨a, R8.rec (motive := fun _ => R8) (fun a b c d e f g _ => ⟨a, b, c, d, e, f, g, v⟩) b, c, d, e, f, g, h⟩) a, b, c, d⟩) s⟩,
  ⟨fun s => Slots.rec (motive := fun _ => SV) (fun _ a _ _ _ => Q8.rec (motive := fun _ => SV) (fun _ _ c _ _ _ _ _ => R8.rec (motive := fun _ => SV) (fun a _ _ _ _ _ _ _ => a) c) a) s, fun s v => Slots.rec (motive := fun _ => Slots) (fun n a b c d => ⟨n, Q8.rec (motive := fun _ => Q8) (fun a b c d e f g h => ⟨a, b, R8.rec (motive := fun _ => R8) (fun _ b c d e f g h => ⟨v, b, c, d, e, f, g, h⟩) c, d, e, f, g, h⟩) a, b, c, d⟩) s⟩,
  ⟨fun s => Slots.rec (motive := fun _ => SV) (fun _ a _ _ _ => Q8.rec (motive := fun _ => SV) (fun _ _ c _ _ _ _ _ => R8.rec (motive := fun _ => SV) (fun _ b _ _ _ _ _ _ => b) c) a) s, fun s v => Slots.rec (motive := fun _ => Slots) (fun n a b c d => ⟨n, Q8.rec (motive := fun _ => Q8) (fun a b c d e f g h => ⟨a, b, R8.rec (motive := fun _ => R8) (fun a _ c d e f g h => ⟨a, v, c, d, e, f, g, h⟩) c, d, e, f, g, h⟩) a, b, c, d⟩) s⟩,
  ⟨fun s => Slots.rec (motive := fun _ => SV) (fun _ a _ _ _ => Q8.rec (motive := fun _ => SV) (fun _ _ c _ _ _ _ _ => R8.rec (motive := fun _ => SV) (fun _ _ c _ _ _ _ _ => c) c) a) s, fun s v => Slots.rec (motive := fun _ => Slots) (fun n a b c d => ⟨n, Q8.rec (motive := fun _ => Q8) (fun a b c d e f g h => ⟨a, b, R8.rec (motive := fun _ => R8) (fun a b _ d e f g h => ⟨a, b, v, d, e, f, g, h⟩) c, d, e, f, g, h⟩) a, b, c, d⟩) s⟩,
  ⟨fun s => Slots.rec (motive := fun _ => SV) (fun _ a _ _ _ => Q8.rec (motive := fun _ => SV) (fun _ _ c _ _ _ _ _ => R8.rec (motive := fun _ => SV) (fun _ _ _ d _ _ _ _ => d) c) a) s, fun s v => Slots.rec (motive := fun _ => Slots) (fun n a b c d => ⟨n, Q8.rec (motive := fun _ => Q8) (fun a b c d e f g h => ⟨a, b, R8.rec (motive := fun _ => R8) (fun a b c _ e f g h => ⟨a, b, c, v, e, f, g, h⟩) c, d, e, f, g, h⟩) a, b, c, d⟩) s⟩,
  ⟨fun s => Slots.rec (motive := fun _ => SV) (fun _ a _ _ _ => Q8.rec (motive := fun _ => SV) (fun _ _ c _ _ _ _ _ => R8.rec (motive := fun _ => SV) (fun _ _ _ _ e _ _ _ => e) c) a) s, fun s v => Slots.rec (motive := fun _ => Slots) (fun n a b c d => ⟨n, Q8.rec (motive := fun _ => Q8) (fun a b c d e f g h => ⟨a, b, R8.rec (motive := fun _ => R8) (fun a b c d _ f g h => ⟨a, b, c, d, v, f, g, h⟩) c, d, e, f, g, h⟩) a, b, c, d⟩) s⟩,
  ⟨fun s => Slots.rec (motive := fun _ => SV) (fun _ a _ _ _ => Q8.rec (motive := fun _ => SV) (fun _ _ c _ _ _ _ _ => R8.rec (motive := fun _ => SV) (fun _ _ _ _ _ f _ _ => f) c) a) s, fun s v => Slots.rec (motive := fun _ => Slots) (fun n a b c d => ⟨n, Q8.rec (motive := fun _ => Q8) (fun a b c d e f g h => ⟨a, b, R8.rec (motive := fun _ => R8) (fun a b c d e _ g h => ⟨a, b, c, d, e, v, g, h⟩) c, d, e, f, g, h⟩) a, b, c, d⟩) s⟩,
  ⟨fun s => Slots.rec (motive := fun _ => SV) (fun _ a _ _ _ => Q8.rec (motive := fun _ => SV) (fun _ _ c _ _ _ _ _ => R8.rec (motive := fun _ => SV) (fun _ _ _ _ _ _ g _ => g) c) a) s, fun s v => Slots.rec (motive := fun _ => Slots) (fun n a b c d => ⟨n, Q8.rec (motive := fun _ => Q8) (fun a b c d e f g h => ⟨a, b, R8.rec (motive := fun _ => R8) (fun a b c d e f _ h => ⟨a, b, c, d, e, f, v, h⟩) c, d, e, f, g, h⟩) a, b, c, d⟩) s⟩,
  ⟨fun s => Slots.rec (motive := fun _ => SV) (fun _ a _ _ _ => Q8.rec (motive := fun _ => SV) (fun _ _ c _ _ _ _ _ => R8.rec (motive := fun _ => SV) (fun _ _ _ _ _ _ _ h => h) c) a) s, fun s v => Slots.rec (motive := fun _ => Slots) (fun n a b c d => ⟨n, Q8.rec (motive := fun _ => Q8) (fun a b c d e f g h => ⟨a, b, R8.rec (motive := fun _ => R8) (fun a b c d e f g _ => ⟨a, b, c, d, e, f, g, v⟩) c, d, e, f, g, h⟩) a, b, c, d⟩) s⟩,
  ⟨fun s => Slots.rec (motive := fun _ => SV) (fun _ a _ _ _ => Q8.rec (motive := fun _ => SV) (fun _ _ _ d _ _ _ _ => R8.rec (motive := fun _ => SV) (fun a _ _ _ _ _ _ _ => a) d) a) s, fun s v => Slots.rec (motive := fun _ => Slots) (fun n a b c d => ⟨n, Q8.rec (motive := fun _ => Q8) (fun a b c d e f g h => ⟨a, b, c, R8.rec (motive := fun _ => R8) (fun _ b c d e f g h => ⟨v, b, c, d, e, f, g, h⟩) d, e, f, g, h⟩) a, b, c, d⟩) s⟩,
  ⟨fun s => Slots.rec (motive := fun _ => SV) (fun _ a _ _ _ => Q8.rec (motive := fun _ => SV) (fun _ _ _ d _ _ _ _ => R8.rec (motive := fun _ => SV) (fun _ b _ _ _ _ _ _ => b) d) a) s, fun s v => Slots.rec (motive := fun _ => Slots) (fun n a b c d => ⟨n, Q8.rec (motive := fun _ => Q8) (fun a b c d e f g h => ⟨a, b, c, R8.rec (motive := fun _ => R8) (fun a _ c d e f g h => ⟨a, v, c, d, e, f, g, h⟩) d, e, f, g, h⟩) a, b, c, d⟩) s⟩,
  ⟨fun s => Slots.rec (motive := fun _ => SV) (fun _ a _ _ _ => Q8.rec (motive := fun _ => SV) (fun _ _ _ d _ _ _ _ => R8.rec (motive := fun _ => SV) (fun _ _ c _ _ _ _ _ => c) d) a) s, fun s v => Slots.rec (motive := fun _ => Slots) (fun n a b c d => ⟨n, Q8.rec (motive := fun _ => Q8) (fun a b c d e f g h => ⟨a, b, c, R8.rec (motive := fun _ => R8) (fun a b _ d e f g h => ⟨a, b, v, d, e, f, g, h⟩) d, e, f, g, h⟩) a, b, c, d⟩) s⟩,
  ⟨fun s => Slots.rec (motive := fun _ => SV) (fun _ a _ _ _ => Q8.rec (motive := fun _ => SV) (fun _ _ _ d _ _ _ _ => R8.rec (motive := fun _ => SV) (fun _ _ _ d _ _ _ _ => d) d) a) s, fun s v => Slots.rec (motive := fun _ => Slots) (fun n a b c d => ⟨n, Q8.rec (motive := fun _ => Q8) (fun a b c d e f g h => ⟨a, b, c, R8.rec (motive := fun _ => R8) (fun a b c _ e f g h => ⟨a, b, c, v, e, f, g, h⟩) d, e, f, g, h⟩) a, b, c, d⟩) s⟩,
  ⟨fun s => Slots.rec (motive := fun _ => SV) (fun _ a _ _ _ => Q8.rec (motive := fun _ => SV) (fun _ _ _ d _ _ _ _ => R8.rec (motive := fun _ => SV) (fun _ _ _ _ e _ _ _ => e) d) a) s, fun s v => Slots.rec (motive := fun _ => Slots) (fun n a b c d => ⟨n, Q8.rec (motive := fun _ => Q8) (fun a b c d e f g h => ⟨a, b, c, R8.rec (motive := fun _ => R8) (fun a b c d _ f g h => ⟨a, b, c, d, v, f, g, h⟩) d, e, f, g, h⟩) a, b, c, d⟩) s⟩,
  ⟨fun s => Slots.rec (motive := fun _ => SV) (fun _ a _ _ _ => Q8.rec (motive := fun _ => SV) (fun _ _ _ d _ _ _ _ => R8.rec (motive := fun _ => SV) (fun _ _ _ _ _ f _ _ => f) d) a) s, fun s v => Slots.rec (motive := fun _ => Slots) (fun n a b c d => ⟨n, Q8.rec (motive := fun _ => Q8) (fun a b c d e f g h => ⟨a, b, c, R8.rec (motive := fun _ => R8) (fun a b c d e _ g h => ⟨a, b, c, d, e, v, g, h⟩) d, e, f, g, h⟩) a, b, c, d⟩) s⟩,
  ⟨fun s => Slots.rec (motive := fun _ => SV) (fun _ a _ _ _ => Q8.rec (motive := fun _ => SV) (fun _ _ _ d _ _ _ _ => R8.rec (motive := fun _ => SV) (fun _ _ _ _ _ _ g _ => g) d) a) s, fun s v => Slots.rec (motive := fun _ => Slots) (fun n a b c d => ⟨n, Q8.rec (motive := fun _ => Q8) (fun a b c d e f g h => ⟨a, b, c, R8.rec (motive := fun _ => R8) (fun a b c d e f _ h => ⟨a, b, c, d, e, f, v, h⟩) d, e, f, g, h⟩) a, b, c, d⟩) s⟩,
  ⟨fun s => Slots.rec (motive := fun _ => SV) (fun _ a _ _ _ => Q8.rec (motive := fun _ => SV) (fun _ _ _ d _ _ _ _ => R8.rec (motive := fun _ => SV) (fun _ _ _ _ _ _ _ h => h) d) a) s, fun s v => Slots.rec (motive := fun _ => Slots) (fun n a b c d => ⟨n, Q8.rec (motive := fun _ => Q8) (fun a b c d e f g h => ⟨a, b, c, R8.rec (motive := fun _ => R8) (fun a b c d e f g _ => ⟨a, b, c, d, e, f, g, v⟩) d, e, f, g, h⟩) a, b, c, d⟩) s⟩,
  ⟨fun s => Slots.rec (motive := fun _ => SV) (fun _ a _ _ _ => Q8.rec (motive := fun _ => SV) (fun _ _ _ _ e _ _ _ => R8.rec (motive := fun _ => SV) (fun a _ _ _ _ _ _ _ => a) e) a) s, fun s v => Slots.rec (motive := fun _ => Slots) (fun n a b c d => ⟨n, Q8.rec (motive := fun _ => Q8) (fun a b c d e f g h => ⟨a, b, c, d, R8.rec (motive := fun _ => R8) (fun _ b c d e f g h => ⟨v, b, c, d, e, f, g, h⟩) e, f, g, h⟩) a, b, c, d⟩) s⟩,
  ⟨fun s => Slots.rec (motive := fun _ => SV) (fun _ a _ _ _ => Q8.rec (motive := fun _ => SV) (fun _ _ _ _ e _ _ _ => R8.rec (motive := fun _ => SV) (fun _ b _ _ _ _ _ _ => b) e) a) s, fun s v => Slots.rec (motive := fun _ => Slots) (fun n a b c d => ⟨n, Q8.rec (motive := fun _ => Q8) (fun a b c d e f g h => ⟨a, b, c, d, R8.rec (motive := fun _ => R8) (fun a _ c d e f g h => ⟨a, v, c, d, e, f, g, h⟩) e, f, g, h⟩) a, b, c, d⟩) s⟩,
  ⟨fun s => Slots.rec (motive := fun _ => SV) (fun _ a _ _ _ => Q8.rec (motive := fun _ => SV) (fun _ _ _ _ e _ _ _ => R8.rec (motive := fun _ => SV) (fun _ _ c _ _ _ _ _ => c) e) a) s, fun s v => Slots.rec (motive := fun _ => Slots) (fun n a b c d => ⟨n, Q8.rec (motive := fun _ => Q8) (fun a b c d e f g h => ⟨a, b, c, d, R8.rec (motive := fun _ => R8) (fun a b _ d e f g h => ⟨a, b, v, d, e, f, g, h⟩) e, f, g, h⟩) a, b, c, d⟩) s⟩,
  ⟨fun s => Slots.rec (motive := fun _ => SV) (fun _ a _ _ _ => Q8.rec (motive := fun _ => SV) (fun _ _ _ _ e _ _ _ => R8.rec (motive := fun _ => SV) (fun _ _ _ d _ _ _ _ => d) e) a) s, fun s v => Slots.rec (motive := fun _ => Slots) (fun n a b c d => ⟨n, Q8.rec (motive := fun _ => Q8) (fun a b c d e f g h => ⟨a, b, c, d, R8.rec (motive := fun _ => R8) (fun a b c _ e f g h => ⟨a, b, c, v, e, f, g, h⟩) e, f, g, h⟩) a, b, c, d⟩) s⟩,
  ⟨fun s => Slots.rec (motive := fun _ => SV) (fun _ a _ _ _ => Q8.rec (motive := fun _ => SV) (fun _ _ _ _ e _ _ _ => R8.rec (motive := fun _ => SV) (fun _ _ _ _ e _ _ _ => e) e) a) s, fun s v => Slots.rec (motive := fun _ => Slots) (fun n a b c d => ⟨n, Q8.rec (motive := fun _ => Q8) (fun a b c d e f g h => ⟨a, b, c, d, R8.rec (motive := fun _ => R8) (fun a b c d _ f g h => ⟨a, b, c, d, v, f, g, h⟩) e, f, g, h⟩) a, b, c, d⟩) s⟩,
  ⟨fun s => Slots.rec (motive := fun _ => SV) (fun _ a _ _ _ => Q8.rec (motive := fun _ => SV) (fun _ _ _ _ e _ _ _ => R8.rec (motive := fun _ => SV) (fun _ _ _ _ _ f _ _ => f) e) a) s, fun s v => Slots.rec (motive := fun _ => Slots) (fun n a b c d => ⟨n, Q8.rec (motive := fun _ => Q8) (fun a b c d e f g h => ⟨a, b, c, d, R8.rec (motive := fun _ => R8) (fun a b c d e _ g h => ⟨a, b, c, d, e, v, g, h⟩) e, f, g, h⟩) a, b, c, d⟩) s⟩,
  ⟨fun s => Slots.rec (motive := fun _ => SV) (fun _ a _ _ _ => Q8.rec (motive := fun _ => SV) (fun _ _ _ _ e _ _ _ => R8.rec (motive := fun _ => SV) (fun _ _ _ _ _ _ g _ => g) e) a) s, fun s v => Slots.rec (motive := fun _ => Slots) (fun n a b c d => ⟨n, Q8.rec (motive := fun _ => Q8) (fun a b c d e f g h => ⟨a, b, c, d, R8.rec (motive := fun _ => R8) (fun a b c d e f _ h => ⟨a, b, c, d, e, f, v, h⟩) e, f, g, h⟩) a, b, c, d⟩) s⟩,
  ⟨fun s => Slots.rec (motive := fun _ => SV) (fun _ a _ _ _ => Q8.rec (motive := fun _ => SV) (fun _ _ _ _ e _ _ _ => R8.rec (motive := fun _ => SV) (fun _ _ _ _ _ _ _ h => h) e) a) s, fun s v => Slots.rec (motive := fun _ => Slots) (fun n a b c d => ⟨n, Q8.rec (motive := fun _ => Q8) (fun a b c d e f g h => ⟨a, b, c, d, R8.rec (motive := fun _ => R8) (fun a b c d e f g _ => ⟨a, b, c, d, e, f, g, v⟩) e, f, g, h⟩) a, b, c, d⟩) s⟩,
  ⟨fun s => Slots.rec (motive := fun _ => SV) (fun _ a _ _ _ => Q8.rec (motive := fun _ => SV) (fun _ _ _ _ _ f _ _ => R8.rec (motive := fun _ => SV) (fun a _ _ _ _ _ _ _ => a) f) a) s, fun s v => Slots.rec (motive := fun _ => Slots) (fun n a b c d => ⟨n, Q8.rec (motive := fun _ => Q8) (fun a b c d e f g h => ⟨a, b, c, d, e, R8.rec (motive := fun _ => R8) (fun _ b c d e f g h => ⟨v, b, c, d, e, f, g, h⟩) f, g, h⟩) a, b, c, d⟩) s⟩,
  ⟨fun s => Slots.rec (motive := fun _ => SV) (fun _ a _ _ _ => Q8.rec (motive := fun _ => SV) (fun _ _ _ _ _ f _ _ => R8.rec (motive := fun _ => SV) (fun _ b _ _ _ _ _ _ => b) f) a) s, fun s v => Slots.rec (motive := fun _ => Slots) (fun n a b c d => ⟨n, Q8.rec (motive := fun _ => Q8) (fun a b c d e f g h => ⟨a, b, c, d, e, R8.rec (motive := fun _ => R8) (fun a _ c d e f g h => ⟨a, v, c, d, e, f, g, h⟩) f, g, h⟩) a, b, c, d⟩) s⟩,
  ⟨fun s => Slots.rec (motive := fun _ => SV) (fun _ a _ _ _ => Q8.rec (motive := fun _ => SV) (fun _ _ _ _ _ f _ _ => R8.rec (motive := fun _ => SV) (fun _ _ c _ _ _ _ _ => c) f) a) s, fun s v => Slots.rec (motive := fun _ => Slots) (fun n a b c d => ⟨n, Q8.rec (motive := fun _ => Q8) (fun a b c d e f g h => ⟨a, b, c, d, e, R8.rec (motive := fun _ => R8) (fun a b _ d e f g h => ⟨a, b, v, d, e, f, g, h⟩) f, g, h⟩) a, b, c, d⟩) s⟩,
  ⟨fun s => Slots.rec (motive := fun _ => SV) (fun _ a _ _ _ => Q8.rec (motive := fun _ => SV) (fun _ _ _ _ _ f _ _ => R8.rec (motive := fun _ => SV) (fun _ _ _ d _ _ _ _ => d) f) a) s, fun s v => Slots.rec (motive := fun _ => Slots) (fun n a b c d => ⟨n, Q8.rec (motive := fun _ => Q8) (fun a b c d e f g h => ⟨a, b, c, d, e, R8.rec (motive := fun _ => R8) (fun a b c _ e f g h => ⟨a, b, c, v, e, f, g, h⟩) f, g, h⟩) a, b, c, d⟩) s⟩,
  ⟨fun s => Slots.rec (motive := fun _ => SV) (fun _ a _ _ _ => Q8.rec (motive := fun _ => SV) (fun _ _ _ _ _ f _ _ => R8.rec (motive := fun _ => SV) (fun _ _ _ _ e _ _ _ => e) f) a) s, fun s v => Slots.rec (motive := fun _ => Slots) (fun n a b c d => ⟨n, Q8.rec (motive := fun _ => Q8) (fun a b c d e f g h => ⟨a, b, c, d, e, R8.rec (motive := fun _ => R8) (fun a b c d _ f g h => ⟨a, b, c, d, v, f, g, h⟩) f, g, h⟩) a, b, c, d⟩) s⟩,
  ⟨fun s => Slots.rec (motive := fun _ => SV) (fun _ a _ _ _ => Q8.rec (motive := fun _ => SV) (fun _ _ _ _ _ f _ _ => R8.rec (motive := fun _ => SV) (fun _ _ _ _ _ f _ _ => f) f) a) s, fun s v => Slots.rec (motive := fun _ => Slots) (fun n a b c d => ⟨n, Q8.rec (motive := fun _ => Q8) (fun a b c d e f g h => ⟨a, b, c, d, e, R8.rec (motive := fun _ => R8) (fun a b c d e _ g h => ⟨a, b, c, d, e, v, g, h⟩) f, g, h⟩) a, b, c, d⟩) s⟩,
  ⟨fun s => Slots.rec (motive := fun _ => SV) (fun _ a _ _ _ => Q8.rec (motive := fun _ => SV) (fun _ _ _ _ _ f _ _ => R8.rec (motive := fun _ => SV) (fun _ _ _ _ _ _ g _ => g) f) a) s, fun s v => Slots.rec (motive := fun _ => Slots) (fun n a b c d => ⟨n, Q8.rec (motive := fun _ => Q8) (fun a b c d e f g h => ⟨a, b, c, d, e, R8.rec (motive := fun _ => R8) (fun a b c d e f _ h => ⟨a, b, c, d, e, f, v, h⟩) f, g, h⟩) a, b, c, d⟩) s⟩,
  ⟨fun s => Slots.rec (motive := fun _ => SV) (fun _ a _ _ _ => Q8.rec (motive := fun _ => SV) (fun _ _ _ _ _ f _ _ => R8.rec (motive := fun _ => SV) (fun _ _ _ _ _ _ _ h => h) f) a) s, fun s v => Slots.rec (motive := fun _ => Slots) (fun n a b c d => ⟨n, Q8.rec (motive := fun _ => Q8) (fun a b c d e f g h => ⟨a, b, c, d, e, R8.rec (motive := fun _ => R8) (fun a b c d e f g _ => ⟨a, b, c, d, e, f, g, v⟩) f, g, h⟩) a, b, c, d⟩) s⟩,
  ⟨fun s => Slots.rec (motive := fun _ => SV) (fun _ a _ _ _ => Q8.rec (motive := fun _ => SV) (fun _ _ _ _ _ _ g _ => R8.rec (motive := fun _ => SV) (fun a _ _ _ _ _ _ _ => a) g) a) s, fun s v => Slots.rec (motive := fun _ => Slots) (fun n a b c d => ⟨n, Q8.rec (motive := fun _ => Q8) (fun a b c d e f g h => ⟨a, b, c, d, e, f, R8.rec (motive := fun _ => R8) (fun _ b c d e f g h => ⟨v, b, c, d, e, f, g, h⟩) g, h⟩) a, b, c, d⟩) s⟩,
  ⟨fun s => Slots.rec (motive := fun _ => SV) (fun _ a _ _ _ => Q8.rec (motive := fun _ => SV) (fun _ _ _ _ _ _ g _ => R8.rec (motive := fun _ => SV) (fun _ b _ _ _ _ _ _ => b) g) a) s, fun s v => Slots.rec (motive := fun _ => Slots) (fun n a b c d => ⟨n, Q8.rec (motive := fun _ => Q8) (fun a b c d e f g h => ⟨a, b, c, d, e, f, R8.rec (motive := fun _ => R8) (fun a _ c d e f g h => ⟨a, v, c, d, e, f, g, h⟩) g, h⟩) a, b, c, d⟩) s⟩,
  ⟨fun s => Slots.rec (motive := fun _ => SV) (fun _ a _ _ _ => Q8.rec (motive := fun _ => SV) (fun _ _ _ _ _ _ g _ => R8.rec (motive := fun _ => SV) (fun _ _ c _ _ _ _ _ => c) g) a) s, fun s v => Slots.rec (motive := fun _ => Slots) (fun n a b c d => ⟨n, Q8.rec (motive := fun _ => Q8) (fun a b c d e f g h => ⟨a, b, c, d, e, f, R8.rec (motive := fun _ => R8) (fun a b _ d e f g h => ⟨a, b, v, d, e, f, g, h⟩) g, h⟩) a, b, c, d⟩) s⟩,
  ⟨fun s => Slots.rec (motive := fun _ => SV) (fun _ a _ _ _ => Q8.rec (motive := fun _ => SV) (fun _ _ _ _ _ _ g _ => R8.rec (motive := fun _ => SV) (fun _ _ _ d _ _ _ _ => d) g) a) s, fun s v => Slots.rec (motive := fun _ => Slots) (fun n a b c d => ⟨n, Q8.rec (motive := fun _ => Q8) (fun a b c d e f g h => ⟨a, b, c, d, e, f, R8.rec (motive := fun _ => R8) (fun a b c _ e f g h => ⟨a, b, c, v, e, f, g, h⟩) g, h⟩) a, b, c, d⟩) s⟩,
  ⟨fun s => Slots.rec (motive := fun _ => SV) (fun _ a _ _ _ => Q8.rec (motive := fun _ => SV) (fun _ _ _ _ _ _ g _ => R8.rec (motive := fun _ => SV) (fun _ _ _ _ e _ _ _ => e) g) a) s, fun s v => Slots.rec (motive := fun _ => Slots) (fun n a b c d => ⟨n, Q8.rec (motive := fun _ => Q8) (fun a b c d e f g h => ⟨a, b, c, d, e, f, R8.rec (motive := fun _ => R8) (fun a b c d _ f g h => ⟨a, b, c, d, v, f, g, h⟩) g, h⟩) a, b, c, d⟩) s⟩,
  ⟨fun s => Slots.rec (motive := fun _ => SV) (fun _ a _ _ _ => Q8.rec (motive := fun _ => SV) (fun _ _ _ _ _ _ g _ => R8.rec (motive := fun _ => SV) (fun _ _ _ _ _ f _ _ => f) g) a) s, fun s v => Slots.rec (motive := fun _ => Slots) (fun n a b c d => ⟨n, Q8.rec (motive := fun _ => Q8) (fun a b c d e f g h => ⟨a, b, c, d, e, f, R8.rec (motive := fun _ => R8) (fun a b c d e _ g h => ⟨a, b, c, d, e, v, g, h⟩) g, h⟩) a, b, c, d⟩) s⟩,
  ⟨fun s => Slots.rec (motive := fun _ => SV) (fun _ a _ _ _ => Q8.rec (motive := fun _ => SV) (fun _ _ _ _ _ _ g _ => R8.rec (motive := fun _ => SV) (fun _ _ _ _ _ _ g _ => g) g) a) s, fun s v => Slots.rec (motive := fun _ => Slots) (fun n a b c d => ⟨n, Q8.rec (motive := fun _ => Q8) (fun a b c d e f g h => ⟨a, b, c, d, e, f, R8.rec (motive := fun _ => R8) (fun a b c d e f _ h => ⟨a, b, c, d, e, f, v, h⟩) g, h⟩) a, b, c, d⟩) s⟩,
  ⟨fun s => Slots.rec (motive := fun _ => SV) (fun _ a _ _ _ => Q8.rec (motive := fun _ => SV) (fun _ _ _ _ _ _ g _ => R8.rec (motive := fun _ => SV) (fun _ _ _ _ _ _ _ h => h) g) a) s, fun s v => Slots.rec (motive := fun _ => Slots) (fun n a b c d => ⟨n, Q8.rec (motive := fun _ => Q8) (fun a b c d e f g h => ⟨a, b, c, d, e, f, R8.rec (motive := fun _ => R8) (fun a b c d e f g _ => ⟨a, b, c, d, e, f, g, v⟩) g, h⟩) a, b, c, d⟩) s⟩,
  ⟨fun s => Slots.rec (motive := fun _ => SV) (fun _ a _ _ _ => Q8.rec (motive := fun _ => SV) (fun _ _ _ _ _ _ _ h => R8.rec (motive := fun _ => SV) (fun a _ _ _ _ _ _ _ => a) h) a) s, fun s v => Slots.rec (motive := fun _ => Slots) (fun n a b c d => ⟨n, Q8.rec (motive := fun _ => Q8) (fun a b c d e f g h => ⟨a, b, c, d, e, f, g, R8.rec (motive := fun _ => R8) (fun _ b c d e f g h => ⟨v, b, c, d, e, f, g, h⟩) h⟩) a, b, c, d⟩) s⟩,
  ⟨fun s => Slots.rec (motive := fun _ => SV) (fun _ a _ _ _ => Q8.rec (motive := fun _ => SV) (fun _ _ _ _ _ _ _ h => R8.rec (motive := fun _ => SV) (fun _ b _ _ _ _ _ _ => b) h) a) s, fun s v => Slots.rec (motive := fun _ => Slots) (fun n a b c d => ⟨n, Q8.rec (motive := fun _ => Q8) (fun a b c d e f g h => ⟨a, b, c, d, e, f, g, R8.rec (motive := fun _ => R8) (fun a _ c d e f g h => ⟨a, v, c, d, e, f, g, h⟩) h⟩) a, b, c, d⟩) s⟩,
  ⟨fun s => Slots.rec (motive := fun _ => SV) (fun _ a _ _ _ => Q8.rec (motive := fun _ => SV) (fun _ _ _ _ _ _ _ h => R8.rec (motive := fun _ => SV) (fun _ _ c _ _ _ _ _ => c) h) a) s, fun s v => Slots.rec (motive := fun _ => Slots) (fun n a b c d => ⟨n, Q8.rec (motive := fun _ => Q8) (fun a b c d e f g h => ⟨a, b, c, d, e, f, g, R8.rec (motive := fun _ => R8) (fun a b _ d e f g h => ⟨a, b, v, d, e, f, g, h⟩) h⟩) a, b, c, d⟩) s⟩,
  ⟨fun s => Slots.rec (motive := fun _ => SV) (fun _ a _ _ _ => Q8.rec (motive := fun _ => SV) (fun _ _ _ _ _ _ _ h => R8.rec (motive := fun _ => SV) (fun _ _ _ d _ _ _ _ => d) h) a) s, fun s v => Slots.rec (motive := fun _ => Slots) (fun n a b c d => ⟨n, Q8.rec (motive := fun _ => Q8) (fun a b c d e f g h => ⟨a, b, c, d, e, f, g, R8.rec (motive := fun _ => R8) (fun a b c _ e f g h => ⟨a, b, c, v, e, f, g, h⟩) h⟩) a, b, c, d⟩) s⟩,
  ⟨fun s => Slots.rec (motive := fun _ => SV) (fun _ a _ _ _ => Q8.rec (motive := fun _ => SV) (fun _ _ _ _ _ _ _ h => R8.rec (motive := fun _ => SV) (fun _ _ _ _ e _ _ _ => e) h) a) s, fun s v => Slots.rec (motive := fun _ => Slots) (fun n a b c d => ⟨n, Q8.rec (motive := fun _ => Q8) (fun a b c d e f g h => ⟨a, b, c, d, e, f, g, R8.rec (motive := fun _ => R8) (fun a b c d _ f g h => ⟨a, b, c, d, v, f, g, h⟩) h⟩) a, b, c, d⟩) s⟩,
  ⟨fun s => Slots.rec (motive := fun _ => SV) (fun _ a _ _ _ => Q8.rec (motive := fun _ => SV) (fun _ _ _ _ _ _ _ h => R8.rec (motive := fun _ => SV) (fun _ _ _ _ _ f _ _ => f) h) a) s, fun s v => Slots.rec (motive := fun _ => Slots) (fun n a b c d => ⟨n, Q8.rec (motive := fun _ => Q8) (fun a b c d e f g h => ⟨a, b, c, d, e, f, g, R8.rec (motive := fun _ => R8) (fun a b c d e _ g h => ⟨a, b, c, d, e, v, g, h⟩) h⟩) a, b, c, d⟩) s⟩,
  ⟨fun s => Slots.rec (motive := fun _ => SV) (fun _ a _ _ _ => Q8.rec (motive := fun _ => SV) (fun _ _ _ _ _ _ _ h => R8.rec (motive := fun _ => SV) (fun _ _ _ _ _ _ g _ => g) h) a) s, fun s v => Slots.rec (motive := fun _ => Slots) (fun n a b c d => ⟨n, Q8.rec (motive := fun _ => Q8) (fun a b c d e f g h => ⟨a, b, c, d, e, f, g, R8.rec (motive := fun _ => R8) (fun a b c d e f _ h => ⟨a, b, c, d, e, f, v, h⟩) h⟩) a, b, c, d⟩) s⟩,
  ⟨fun s => Slots.rec (motive := fun _ => SV) (fun _ a _ _ _ => Q8.rec (motive := fun _ => SV) (fun _ _ _ _ _ _ _ h => R8.rec (motive := fun _ => SV) (fun _ _ _ _ _ _ _ h => h) h) a) s, fun s v => Slots.rec (motive := fun _ => Slots) (fun n a b c d => ⟨n, Q8.rec (motive := fun _ => Q8) (fun a b c d e f g h => ⟨a, b, c, d, e, f, g, R8.rec (motive := fun _ => R8) (fun a b c d e f g _ => ⟨a, b, c, d, e, f, g, v⟩) h⟩) a, b, c, d⟩) s⟩]
noncomputable def accs1 : List Acc := [
  ⟨fun s => Slots.rec (motive := fun _ => SV) (fun _ _ b _ _ => Q8.rec (motive := fun _ => SV) (fun a _ _ _ _ _ _ _ => R8.rec (motive := fun _ => SV) (fun a _ _ _ _ _ _ _ => a) a) b) s, fun s v => Slots.rec (motive := fun _ => Slots) (fun n a b c d => ⟨n, a, Q8.rec (motive := fun _ => Q8) (fun a b c d e f g h => ⟨R8.rec (motive := fun _ => R8) (fun _ b c d e f g h => ⟨v, b, c, d, e, f, g, h⟩) a, b, c, d, e, f, g, h⟩) b, c, d⟩) s⟩,
  ⟨fun s => Slots.rec (motive := fun _ => SV) (fun _ _ b _ _ => Q8.rec (motive := fun _ => SV) (fun a _ _ _ _ _ _ _ => R8.rec (motive := fun _ => SV) (fun _ b _ _ _ _ _ _ => b) a) b) s, fun s v => Slots.rec (motive := fun _ => Slots) (fun n a b c d => ⟨n, a, Q8.rec (motive := fun _ => Q8) (fun a b c d e f g h => ⟨R8.rec (motive := fun _ => R8) (fun a _ c d e f g h => ⟨a, v, c, d, e, f, g, h⟩) a, b, c, d, e, f, g, h⟩) b, c, d⟩) s⟩,
  ⟨fun s => Slots.rec (motive := fun _ => SV) (fun _ _ b _ _ => Q8.rec (motive := fun _ => SV) (fun a _ _ _ _ _ _ _ => R8.rec (motive := fun _ => SV) (fun _ _ c _ _ _ _ _ => c) a) b) s, fun s v => Slots.rec (motive := fun _ => Slots) (fun n a b c d => ⟨n, a, Q8.rec (motive := fun _ => Q8) (fun a b c d e f g h => ⟨R8.rec (motive := fun _ => R8) (fun a b _ d e f g h => ⟨a, b, v, d, e, f, g, h⟩) a, b, c, d, e, f, g, h⟩) b, c, d⟩) s⟩,
  ⟨fun s => Slots.rec (motive := fun _ => SV) (fun _ _ b _ _ => Q8.rec (motive := fun _ => SV) (fun a _ _ _ _ _ _ _ => R8.rec (motive := fun _ => SV) (fun _ _ _ d _ _ _ _ => d) a) b) s, fun s v => Slots.rec (motive := fun _ => Slots) (fun n a b c d => ⟨n, a, Q8.rec (motive := fun _ => Q8) (fun a b c d e f g h => ⟨R8.rec (motive := fun _ => R8) (fun a b c _ e f g h => ⟨a, b, c, v, e, f, g, h⟩) a, b, c, d, e, f, g, h⟩) b, c, d⟩) s⟩,
  ⟨fun s => Slots.rec (motive := fun _ => SV) (fun _ _ b _ _ => Q8.rec (motive := fun _ => SV) (fun a _ _ _ _ _ _ _ => R8.rec (motive := fun _ => SV) (fun _ _ _ _ e _ _ _ => e) a) b) s, fun s v => Slots.rec (motive := fun _ => Slots) (fun n a b c d => ⟨n, a, Q8.rec (motive := fun _ => Q8) (fun a b c d e f g h => ⟨R8.rec (motive := fun _ => R8) (fun a b c d _ f g h => ⟨a, b, c, d, v, f, g, h⟩) a, b, c, d, e, f, g, h⟩) b, c, d⟩) s⟩,
  ⟨fun s => Slots.rec (motive := fun _ => SV) (fun _ _ b _ _ => Q8.rec (motive := fun _ => SV) (fun a _ _ _ _ _ _ _ => R8.rec (motive := fun _ => SV) (fun _ _ _ _ _ f _ _ => f) a) b) s, fun s v => Slots.rec (motive := fun _ => Slots) (fun n a b c d => ⟨n, a, Q8.rec (motive := fun _ => Q8) (fun a b c d e f g h => ⟨R8.rec (motive := fun _ => R8) (fun a b c d e _ g h => ⟨a, b, c, d, e, v, g, h⟩) a, b, c, d, e, f, g, h⟩) b, c, d⟩) s⟩,
  ⟨fun s => Slots.rec (motive := fun _ => SV) (fun _ _ b _ _ => Q8.rec (motive := fun _ => SV) (fun a _ _ _ _ _ _ _ => R8.rec (motive := fun _ => SV) (fun _ _ _ _ _ _ g _ => g) a) b) s, fun s v => Slots.rec (motive := fun _ => Slots) (fun n a b c d => ⟨n, a, Q8.rec (motive := fun _ => Q8) (fun a b c d e f g h => ⟨R8.rec (motive := fun _ => R8) (fun a b c d e f _ h => ⟨a, b, c, d, e, f, v, h⟩) a, b, c, d, e, f, g, h⟩) b, c, d⟩) s⟩,
  ⟨fun s => Slots.rec (motive := fun _ => SV) (fun _ _ b _ _ => Q8.rec (motive := fun _ => SV) (fun a _ _ _ _ _ _ _ => R8.rec (motive := fun _ => SV) (fun _ _ _ _ _ _ _ h => h) a) b) s, fun s v => Slots.rec (motive := fun _ => Slots) (fun n a b c d => ⟨n, a, Q8.rec (motive := fun _ => Q8) (fun a b c d e f g h => ⟨R8.rec (motive := fun _ => R8) (fun a b c d e f g _ => ⟨a, b, c, d, e, f, g, v⟩) a, b, c, d, e, f, g, h⟩) b, c, d⟩) s⟩,
  ⟨fun s => Slots.rec (motive := fun _ => SV) (fun _ _ b _ _ => Q8.rec (motive := fun _ => SV) (fun _ b _ _ _ _ _ _ => R8.rec (motive := fun _ => SV) (fun a _ _ _ _ _ _ _ => a) b) b) s, fun s v => Slots.rec (motive := fun _ => Slots) (fun n a b c d => ⟨n, a, Q8.rec (motive := fun _ => Q8) (fun a b c d e f g h => ⟨a, R8.rec (motive := fun _ => R8) (fun _ b c d e f g h => ⟨v, b, c, d, e, f, g, h⟩) b, c, d, e, f, g, h⟩) b, c, d⟩) s⟩,
  ⟨fun s => Slots.rec (motive := fun _ => SV) (fun _ _ b _ _ => Q8.rec (motive := fun _ => SV) (fun _ b _ _ _ _ _ _ => R8.rec (motive := fun _ => SV) (fun _ b _ _ _ _ _ _ => b) b) b) s, fun s v => Slots.rec (motive := fun _ => Slots) (fun n a b c d => ⟨n, a, Q8.rec (motive := fun _ => Q8) (fun a b c d e f g h => ⟨a, R8.rec (motive := fun _ => R8) (fun a _ c d e f g h => ⟨a, v, c, d, e, f, g, h⟩) b, c, d, e, f, g, h⟩) b, c, d⟩) s⟩,
  ⟨fun s => Slots.rec (motive := fun _ => SV) (fun _ _ b _ _ => Q8.rec (motive := fun _ => SV) (fun _ b _ _ _ _ _ _ => R8.rec (motive := fun _ => SV) (fun _ _ c _ _ _ _ _ => c) b) b) s, fun s v => Slots.rec (motive := fun _ => Slots) (fun n a b c d => ⟨n, a, Q8.rec (motive := fun _ => Q8) (fun a b c d e f g h => ⟨a, R8.rec (motive := fun _ => R8) (fun a b _ d e f g h => ⟨a, b, v, d, e, f, g, h⟩) b, c, d, e, f, g, h⟩) b, c, d⟩) s⟩,
  ⟨fun s => Slots.rec (motive := fun _ => SV) (fun _ _ b _ _ => Q8.rec (motive := fun _ => SV) (fun _ b _ _ _ _ _ _ => R8.rec (motive := fun _ => SV) (fun _ _ _ d _ _ _ _ => d) b) b) s, fun s v => Slots.rec (motive := fun _ => Slots) (fun n a b c d => ⟨n, a, Q8.rec (motive := fun _ => Q8) (fun a b c d e f g h => ⟨a, R8.rec (motive := fun _ => R8) (fun a b c _ e f g h => ⟨a, b, c, v, e, f, g, h⟩) b, c, d, e, f, g, h⟩) b, c, d⟩) s⟩,
  ⟨fun s => Slots.rec (motive := fun _ => SV) (fun _ _ b _ _ => Q8.rec (motive := fun _ => SV) (fun _ b _ _ _ _ _ _ => R8.rec (motive := fun _ => SV) (fun _ _ _ _ e _ _ _ => e) b) b) s, fun s v => Slots.rec (motive := fun _ => Slots) (fun n a b c d => ⟨n, a, Q8.rec (motive := fun _ => Q8) (fun a b c d e f g h => ⟨a, R8.rec (motive := fun _ => R8) (fun a b c d _ f g h => ⟨a, b, c, d, v, f, g, h⟩) b, c, d, e, f, g, h⟩) b, c, d⟩) s⟩,
  ⟨fun s => Slots.rec (motive := fun _ => SV) (fun _ _ b _ _ => Q8.rec (motive := fun _ => SV) (fun _ b _ _ _ _ _ _ => R8.rec (motive := fun _ => SV) (fun _ _ _ _ _ f _ _ => f) b) b) s, fun s v => Slots.rec (motive := fun _ => Slots) (fun n a b c d => ⟨n, a, Q8.rec (motive := fun _ => Q8) (fun a b c d e f g h => ⟨a, R8.rec (motive := fun _ => R8) (fun a b c d e _ g h => ⟨a, b, c, d, e, v, g, h⟩) b, c, d, e, f, g, h⟩) b, c, d⟩) s⟩,
  ⟨fun s => Slots.rec (motive := fun _ => SV) (fun _ _ b _ _ => Q8.rec (motive := fun _ => SV) (fun _ b _ _ _ _ _ _ => R8.rec (motive := fun _ => SV) (fun _ _ _ _ _ _ g _ => g) b) b) s, fun s v => Slots.rec (motive := fun _ => Slots) (fun n a b c d => ⟨n, a, Q8.rec (motive := fun _ => Q8) (fun a b c d e f g h => ⟨a, R8.rec (motive := fun _ => R8) (fun a b c d e f _ h => ⟨a, b, c, d, e, f, v, h⟩) b, c, d, e, f, g, h⟩) b, c, d⟩) s⟩,
  ⟨fun s => Slots.rec (motive := fun _ => SV) (fun _ _ b _ _ => Q8.rec (motive := fun _ => SV) (fun _ b _ _ _ _ _ _ => R8.rec (motive := fun _ => SV) (fun _ _ _ _ _ _ _ h => h) b) b) s, fun s v => Slots.rec (motive := fun _ => Slots) (fun n a b c d => ⟨n, a, Q8.rec (motive := fun _ => Q8) (fun a b c d e f g h => ⟨a, R8.rec (motive := fun _ => R8) (fun a b c d e f g _ => ⟨a, b, c, d, e, f, g, v⟩) b, c, d, e, f, g, h⟩) b, c, d⟩) s⟩,
  ⟨fun s => Slots.rec (motive := fun _ => SV) (fun _ _ b _ _ => Q8.rec (motive := fun _ => SV) (fun _ _ c _ _ _ _ _ => R8.rec (motive := fun _ => SV) (fun a _ _ _ _ _ _ _ => a) c) b) s, fun s v => Slots.rec (motive := fun _ => Slots) (fun n a b c d => ⟨n, a, Q8.rec (motive := fun _ => Q8) (fun a b c d e f g h => ⟨a, b, R8.rec (motive := fun _ => R8) (fun _ b c d e f g h => ⟨v, b, c, d, e, f, g, h⟩) c, d, e, f, g, h⟩) b, c, d⟩) s⟩,
  ⟨fun s => Slots.rec (motive := fun _ => SV) (fun _ _ b _ _ => Q8.rec (motive := fun _ => SV) (fun _ _ c _ _ _ _ _ => R8.rec (motive := fun _ => SV) (fun _ b _ _ _ _ _ _ => b) c) b) s, fun s v => Slots.rec (motive := fun _ => Slots) (fun n a b c d => ⟨n, a, Q8.rec (motive := fun _ => Q8) (fun a b c d e f g h => ⟨a, b, R8.rec (motive := fun _ => R8) (fun a _ c d e f g h => ⟨a, v, c, d, e, f, g, h⟩) c, d, e, f, g, h⟩) b, c, d⟩) s⟩,
  ⟨fun s => Slots.rec (motive := fun _ => SV) (fun _ _ b _ _ => Q8.rec (motive := fun _ => SV) (fun _ _ c _ _ _ _ _ => R8.rec (motive := fun _ => SV) (fun _ _ c _ _ _ _ _ => c) c) b) s, fun s v => Slots.rec (motive := fun _ => Slots) (fun n a b c d => ⟨n, a, Q8.rec (motive := fun _ => Q8) (fun a b c d e f g h => ⟨a, b, R8.rec (motive := fun _ => R8) (fun a b _ d e f g h => ⟨a, b, v, d, e, f, g, h⟩) c, d, e, f, g, h⟩) b, c, d⟩) s⟩,
  ⟨fun s => Slots.rec (motive := fun _ => SV) (fun _ _ b _ _ => Q8.rec (motive := fun _ => SV) (fun _ _ c _ _ _ _ _ => R8.rec (motive := fun _ => SV) (fun _ _ _ d _ _ _ _ => d) c) b) s, fun s v => Slots.rec (motive := fun _ => Slots) (fun n a b c d => ⟨n, a, Q8.rec (motive := fun _ => Q8) (fun a b c d e f g h => ⟨a, b, R8.rec (motive := fun _ => R8) (fun a b c _ e f g h => ⟨a, b, c, v, e, f, g, h⟩) c, d, e, f, g, h⟩) b, c, d⟩) s⟩,
  ⟨fun s => Slots.rec (motive := fun _ => SV) (fun _ _ b _ _ => Q8.rec (motive := fun _ => SV) (fun _ _ c _ _ _ _ _ => R8.rec (motive := fun _ => SV) (fun _ _ _ _ e _ _ _ => e) c) b) s, fun s v => Slots.rec (motive := fun _ => Slots) (fun n a b c d => ⟨n, a, Q8.rec (motive := fun _ => Q8) (fun a b c d e f g h => ⟨a, b, R8.rec (motive := fun _ => R8) (fun a b c d _ f g h => ⟨a, b, c, d, v, f, g, h⟩) c, d, e, f, g, h⟩) b, c, d⟩) s⟩,
  ⟨fun s => Slots.rec (motive := fun _ => SV) (fun _ _ b _ _ => Q8.rec (motive := fun _ => SV) (fun _ _ c _ _ _ _ _ => R8.rec (motive := fun _ => SV) (fun _ _ _ _ _ f _ _ => f) c) b) s, fun s v => Slots.rec (motive := fun _ => Slots) (fun n a b c d => ⟨n, a, Q8.rec (motive := fun _ => Q8) (fun a b c d e f g h => ⟨a, b, R8.rec (motive := fun _ => R8) (fun a b c d e _ g h => ⟨a, b, c, d, e, v, g, h⟩) c, d, e, f, g, h⟩) b, c, d⟩) s⟩,
  ⟨fun s => Slots.rec (motive := fun _ => SV) (fun _ _ b _ _ => Q8.rec (motive := fun _ => SV) (fun _ _ c _ _ _ _ _ => R8.rec (motive := fun _ => SV) (fun _ _ _ _ _ _ g _ => g) c) b) s, fun s v => Slots.rec (motive := fun _ => Slots) (fun n a b c d => ⟨n, a, Q8.rec (motive := fun _ => Q8) (fun a b c d e f g h => ⟨a, b, R8.rec (motive := fun _ => R8) (fun a b c d e f _ h => ⟨a, b, c, d, e, f, v, h⟩) c, d, e, f, g, h⟩) b, c, d⟩) s⟩,
  ⟨fun s => Slots.rec (motive := fun _ => SV) (fun _ _ b _ _ => Q8.rec (motive := fun _ => SV) (fun _ _ c _ _ _ _ _ => R8.rec (motive := fun _ => SV) (fun _ _ _ _ _ _ _ h => h) c) b) s, fun s v => Slots.rec (motive := fun _ => Slots) (fun n a b c d => ⟨n, a, Q8.rec (motive := fun _ => Q8) (fun a b c d e f g h => ⟨a, b, R8.rec (motive := fun _ => R8) (fun a b c d e f g _ => ⟨a, b, c, d, e, f, g, v⟩) c, d, e, f, g, h⟩) b, c, d⟩) s⟩,
  ⟨fun s => Slots.rec (motive := fun _ => SV) (fun _ _ b _ _ => Q8.rec (motive := fun _ => SV) (fun _ _ _ d _ _ _ _ => R8.rec (motive := fun _ => SV) (fun a _ _ _ _ _ _ _ => a) d) b) s, fun s v => Slots.rec (motive := fun _ => Slots) (fun n a b c d => ⟨n, a, Q8.rec (motive := fun _ => Q8) (fun a b c d e f g h => ⟨a, b, c, R8.rec (motive := fun _ => R8) (fun _ b c d e f g h => ⟨v, b, c, d, e, f, g, h⟩) d, e, f, g, h⟩) b, c, d⟩) s⟩,
  ⟨fun s => Slots.rec (motive := fun _ => SV) (fun _ _ b _ _ => Q8.rec (motive := fun _ => SV) (fun _ _ _ d _ _ _ _ => R8.rec (motive := fun _ => SV) (fun _ b _ _ _ _ _ _ => b) d) b) s, fun s v => Slots.rec (motive := fun _ => Slots) (fun n a b c d => ⟨n, a, Q8.rec (motive := fun _ => Q8) (fun a b c d e f g h => ⟨a, b, c, R8.rec (motive := fun _ => R8) (fun a _ c d e f g h => ⟨a, v, c, d, e, f, g, h⟩) d, e, f, g, h⟩) b, c, d⟩) s⟩,
  ⟨fun s => Slots.rec (motive := fun _ => SV) (fun _ _ b _ _ => Q8.rec (motive := fun _ => SV) (fun _ _ _ d _ _ _ _ => R8.rec (motive := fun _ => SV) (fun _ _ c _ _ _ _ _ => c) d) b) s, fun s v => Slots.rec (motive := fun _ => Slots) (fun n a b c d => ⟨n, a, Q8.rec (motive := fun _ => Q8) (fun a b c d e f g h => ⟨a, b, c, R8.rec (motive := fun _ => R8) (fun a b _ d e f g h => ⟨a, b, v, d, e, f, g, h⟩) d, e, f, g, h⟩) b, c, d⟩) s⟩,
  ⟨fun s => Slots.rec (motive := fun _ => SV) (fun _ _ b _ _ => Q8.rec (motive := fun _ => SV) (fun _ _ _ d _ _ _ _ => R8.rec (motive := fun _ => SV) (fun _ _ _ d _ _ _ _ => d) d) b) s, fun s v => Slots.rec (motive := fun _ => Slots) (fun n a b c d => ⟨n, a, Q8.rec (motive := fun _ => Q8) (fun a b c d e f g h => ⟨a, b, c, R8.rec (motive := fun _ => R8) (fun a b c _ e f g h => ⟨a, b, c, v, e, f, g, h⟩) d, e, f, g, h⟩) b, c, d⟩) s⟩,
  ⟨fun s => Slots.rec (motive := fun _ => SV) (fun _ _ b _ _ => Q8.rec (motive := fun _ => SV) (fun _ _ _ d _ _ _ _ => R8.rec (motive := fun _ => SV) (fun _ _ _ _ e _ _ _ => e) d) b) s, fun s v => Slots.rec (motive := fun _ => Slots) (fun n a b c d => ⟨n, a, Q8.rec (motive := fun _ => Q8) (fun a b c d e f g h => ⟨a, b, c, R8.rec (motive := fun _ => R8) (fun a b c d _ f g h => ⟨a, b, c, d, v, f, g, h⟩) d, e, f, g, h⟩) b, c, d⟩) s⟩,
  ⟨fun s => Slots.rec (motive := fun _ => SV) (fun _ _ b _ _ => Q8.rec (motive := fun _ => SV) (fun _ _ _ d _ _ _ _ => R8.rec (motive := fun _ => SV) (fun _ _ _ _ _ f _ _ => f) d) b) s, fun s v => Slots.rec (motive := fun _ => Slots) (fun n a b c d => ⟨n, a, Q8.rec (motive := fun _ => Q8) (fun a b c d e f g h => ⟨a, b, c, R8.rec (motive := fun _ => R8) (fun a b c d e _ g h => ⟨a, b, c, d, e, v, g, h⟩) d, e, f, g, h⟩) b, c, d⟩) s⟩,
  ⟨fun s => Slots.rec (motive := fun _ => SV) (fun _ _ b _ _ => Q8.rec (motive := fun _ => SV) (fun _ _ _ d _ _ _ _ => R8.rec (motive := fun _ => SV) (fun _ _ _ _ _ _ g _ => g) d) b) s, fun s v => Slots.rec (motive := fun _ => Slots) (fun n a b c d => ⟨n, a, Q8.rec (motive := fun _ => Q8) (fun a b c d e f g h => ⟨a, b, c, R8.rec (motive := fun _ => R8) (fun a b c d e f _ h => ⟨a, b, c, d, e, f, v, h⟩) d, e, f, g, h⟩) b, c, d⟩) s⟩,
  ⟨fun s => Slots.rec (motive := fun _ => SV) (fun _ _ b _ _ => Q8.rec (motive := fun _ => SV) (fun _ _ _ d _ _ _ _ => R8.rec (motive := fun _ => SV) (fun _ _ _ _ _ _ _ h => h) d) b) s, fun s v => Slots.rec (motive := fun _ => Slots) (fun n a b c d => ⟨n, a, Q8.rec (motive := fun _ => Q8) (fun a b c d e f g h => ⟨a, b, c, R8.rec (motive := fun _ => R8) (fun a b c d e f g _ => ⟨a, b, c, d, e, f, g, v⟩) d, e, f, g, h⟩) b, c, d⟩) s⟩,
  ⟨fun s => Slots.rec (motive := fun _ => SV) (fun _ _ b _ _ => Q8.rec (motive := fun _ => SV) (fun _ _ _ _ e _ _ _ => R8.rec (motive := fun _ => SV) (fun a _ _ _ _ _ _ _ => a) e) b) s, fun s v => Slots.rec (motive := fun _ => Slots) (fun n a b c d => ⟨n, a, Q8.rec (motive := fun _ => Q8) (fun a b c d e f g h => ⟨a, b, c, d, R8.rec (motive := fun _ => R8) (fun _ b c d e f g h => ⟨v, b, c, d, e, f, g, h⟩) e, f, g, h⟩) b, c, d⟩) s⟩,
  ⟨fun s => Slots.rec (motive := fun _ => SV) (fun _ _ b _ _ => Q8.rec (motive := fun _ => SV) (fun _ _ _ _ e _ _ _ => R8.rec (motive := fun _ => SV) (fun _ b _ _ _ _ _ _ => b) e) b) s, fun s v => Slots.rec (motive := fun _ => Slots) (fun n a b c d => ⟨n, a, Q8.rec (motive := fun _ => Q8) (fun a b c d e f g h => ⟨a, b, c, d, R8.rec (motive := fun _ => R8) (fun a _ c d e f g h => ⟨a, v, c, d, e, f, g, h⟩) e, f, g, h⟩) b, c, d⟩) s⟩,
  ⟨fun s => Slots.rec (motive := fun _ => SV) (fun _ _ b _ _ => Q8.rec (motive := fun _ => SV) (fun _ _ _ _ e _ _ _ => R8.rec (motive := fun _ => SV) (fun _ _ c _ _ _ _ _ => c) e) b) s, fun s v => Slots.rec (motive := fun _ => Slots) (fun n a b c d => ⟨n, a, Q8.rec (motive := fun _ => Q8) (fun a b c d e f g h => ⟨a, b, c, d, R8.rec (motive := fun _ => R8) (fun a b _ d e f g h => ⟨a, b, v, d, e, f, g, h⟩) e, f, g, h⟩) b, c, d⟩) s⟩,
  ⟨fun s => Slots.rec (motive := fun _ => SV) (fun _ _ b _ _ => Q8.rec (motive := fun _ => SV) (fun _ _ _ _ e _ _ _ => R8.rec (motive := fun _ => SV) (fun _ _ _ d _ _ _ _ => d) e) b) s, fun s v => Slots.rec (motive := fun _ => Slots) (fun n a b c d => ⟨n, a, Q8.rec (motive := fun _ => Q8) (fun a b c d e f g h => ⟨a, b, c, d, R8.rec (motive := fun _ => R8) (fun a b c _ e f g h => ⟨a, b, c, v, e, f, g, h⟩) e, f, g, h⟩) b, c, d⟩) s⟩,
  ⟨fun s => Slots.rec (motive := fun _ => SV) (fun _ _ b _ _ => Q8.rec (motive := fun _ => SV) (fun _ _ _ _ e _ _ _ => R8.rec (motive := fun _ => SV) (fun _ _ _ _ e _ _ _ => e) e) b) s, fun s v => Slots.rec (motive := fun _ => Slots) (fun n a b c d => ⟨n, a, Q8.rec (motive := fun _ => Q8) (fun a b c d e f g h => ⟨a, b, c, d, R8.rec (motive := fun _ => R8) (fun a b c d _ f g h => ⟨a, b, c, d, v, f, g, h⟩) e, f, g, h⟩) b, c, d⟩) s⟩,
  ⟨fun s => Slots.rec (motive := fun _ => SV) (fun _ _ b _ _ => Q8.rec (motive := fun _ => SV) (fun _ _ _ _ e _ _ _ => R8.rec (motive := fun _ => SV) (fun _ _ _ _ _ f _ _ => f) e) b) s, fun s v => Slots.rec (motive := fun _ => Slots) (fun n a b c d => ⟨n, a, Q8.rec (motive := fun _ => Q8) (fun a b c d e f g h => ⟨a, b, c, d, R8.rec (motive := fun _ => R8) (fun a b c d e _ g h => ⟨a, b, c, d, e, v, g, h⟩) e, f, g, h⟩) b, c, d⟩) s⟩,
  ⟨fun s => Slots.rec (motive := fun _ => SV) (fun _ _ b _ _ => Q8.rec (motive := fun _ => SV) (fun _ _ _ _ e _ _ _ => R8.rec (motive := fun _ => SV) (fun _ _ _ _ _ _ g _ => g) e) b) s, fun s v => Slots.rec (motive := fun _ => Slots) (fun n a b c d => ⟨n, a, Q8.rec (motive := fun _ => Q8) (fun a b c d e f g h => ⟨a, b, c, d, R8.rec (motive := fun _ => R8) (fun a b c d e f _ h => ⟨a, b, c, d, e, f, v, h⟩) e, f, g, h⟩) b, c, d⟩) s⟩,
  ⟨fun s => Slots.rec (motive := fun _ => SV) (fun _ _ b _ _ => Q8.rec (motive := fun _ => SV) (fun _ _ _ _ e _ _ _ => R8.rec (motive := fun _ => SV) (fun _ _ _ _ _ _ _ h => h) e) b) s, fun s v => Slots.rec (motive := fun _ => Slots) (fun n a b c d => ⟨n, a, Q8.rec (motive := fun _ => Q8) (fun a b c d e f g h => ⟨a, b, c, d, R8.rec (motive := fun _ => R8) (fun a b c d e f g _ => ⟨a, b, c, d, e, f, g, v⟩) e, f, g, h⟩) b, c, d⟩) s⟩,
  ⟨fun s => Slots.rec (motive := fun _ => SV) (fun _ _ b _ _ => Q8.rec (motive := fun _ => SV) (fun _ _ _ _ _ f _ _ => R8.rec (motive := fun _ => SV) (fun a _ _ _ _ _ _ _ => a) f) b) s, fun s v => Slots.rec (motive := fun _ => Slots) (fun n a b c d => ⟨n, a, Q8.rec (motive := fun _ => Q8) (fun a b c d e f g h => ⟨a, b, c, d, e, R8.rec (motive := fun _ => R8) (fun _ b c d e f g h => ⟨v, b, c, d, e, f, g, h⟩) f, g, h⟩) b, c, d⟩) s⟩,
  ⟨fun s => Slots.rec (motive := fun _ => SV) (fun _ _ b _ _ => Q8.rec (motive := fun _ => SV) (fun _ _ _ _ _ f _ _ => R8.rec (motive := fun _ => SV) (fun _ b _ _ _ _ _ _ => b) f) b) s, fun s v => Slots.rec (motive := fun _ => Slots) (fun n a b c d => ⟨n, a, Q8.rec (motive := fun _ => Q8) (fun a b c d e f g h => ⟨a, b, c, d, e, R8.rec (motive := fun _ => R8) (fun a _ c d e f g h => ⟨a, v, c, d, e, f, g, h⟩) f, g, h⟩) b, c, d⟩) s⟩,
  ⟨fun s => Slots.rec (motive := fun _ => SV) (fun _ _ b _ _ => Q8.rec (motive := fun _ => SV) (fun _ _ _ _ _ f _ _ => R8.rec (motive := fun _ => SV) (fun _ _ c _ _ _ _ _ => c) f) b) s, fun s v => Slots.rec (motive := fun _ => Slots) (fun n a b c d => ⟨n, a, Q8.rec (motive := fun _ => Q8) (fun a b c d e f g h => ⟨a, b, c, d, e, R8.rec (motive := fun _ => R8) (fun a b _ d e f g h => ⟨a, b, v, d, e, f, g, h⟩) f, g, h⟩) b, c, d⟩) s⟩,
  ⟨fun s => Slots.rec (motive := fun _ => SV) (fun _ _ b _ _ => Q8.rec (motive := fun _ => SV) (fun _ _ _ _ _ f _ _ => R8.rec (motive := fun _ => SV) (fun _ _ _ d _ _ _ _ => d) f) b) s, fun s v => Slots.rec (motive := fun _ => Slots) (fun n a b c d => ⟨n, a, Q8.rec (motive := fun _ => Q8) (fun a b c d e f g h => ⟨a, b, c, d, e, R8.rec (motive := fun _ => R8) (fun a b c _ e f g h => ⟨a, b, c, v, e, f, g, h⟩) f, g, h⟩) b, c, d⟩) s⟩,
  ⟨fun s => Slots.rec (motive := fun _ => SV) (fun _ _ b _ _ => Q8.rec (motive := fun _ => SV) (fun _ _ _ _ _ f _ _ => R8.rec (motive := fun _ => SV) (fun _ _ _ _ e _ _ _ => e) f) b) s, fun s v => Slots.rec (motive := fun _ => Slots) (fun n a b c d => ⟨n, a, Q8.rec (motive := fun _ => Q8) (fun a b c d e f g h => ⟨a, b, c, d, e, R8.rec (motive := fun _ => R8) (fun a b c d _ f g h => ⟨a, b, c, d, v, f, g, h⟩) f, g, h⟩) b, c, d⟩) s⟩,
  ⟨fun s => Slots.rec (motive := fun _ => SV) (fun _ _ b _ _ => Q8.rec (motive := fun _ => SV) (fun _ _ _ _ _ f _ _ => R8.rec (motive := fun _ => SV) (fun _ _ _ _ _ f _ _ => f) f) b) s, fun s v => Slots.rec (motive := fun _ => Slots) (fun n a b c d => ⟨n, a, Q8.rec (motive := fun _ => Q8) (fun a b c d e f g h => ⟨a, b, c, d, e, R8.rec (motive := fun _ => R8) (fun a b c d e _ g h => ⟨a, b, c, d, e, v, g, h⟩) f, g, h⟩) b, c, d⟩) s⟩,
  ⟨fun s => Slots.rec (motive := fun _ => SV) (fun _ _ b _ _ => Q8.rec (motive := fun _ => SV) (fun _ _ _ _ _ f _ _ => R8.rec (motive := fun _ => SV) (fun _ _ _ _ _ _ g _ => g) f) b) s, fun s v => Slots.rec (motive := fun _ => Slots) (fun n a b c d => ⟨n, a, Q8.rec (motive := fun _ => Q8) (fun a b c d e f g h => ⟨a, b, c, d, e, R8.rec (motive := fun _ => R8) (fun a b c d e f _ h => ⟨a, b, c, d, e, f, v, h⟩) f, g, h⟩) b, c, d⟩) s⟩,
  ⟨fun s => Slots.rec (motive := fun _ => SV) (fun _ _ b _ _ => Q8.rec (motive := fun _ => SV) (fun _ _ _ _ _ f _ _ => R8.rec (motive := fun _ => SV) (fun _ _ _ _ _ _ _ h => h) f) b) s, fun s v => Slots.rec (motive := fun _ => Slots) (fun n a b c d => ⟨n, a, Q8.rec (motive := fun _ => Q8) (fun a b c d e f g h => ⟨a, b, c, d, e, R8.rec (motive := fun _ => R8) (fun a b c d e f g _ => ⟨a, b, c, d, e, f, g, v⟩) f, g, h⟩) b, c, d⟩) s⟩,
  ⟨fun s => Slots.rec (motive := fun _ => SV) (fun _ _ b _ _ => Q8.rec (motive := fun _ => SV) (fun _ _ _ _ _ _ g _ => R8.rec (motive := fun _ => SV) (fun a _ _ _ _ _ _ _ => a) g) b) s, fun s v => Slots.rec (motive := fun _ => Slots) (fun n a b c d => ⟨n, a, Q8.rec (motive := fun _ => Q8) (fun a b c d e f g h => ⟨a, b, c, d, e, f, R8.rec (motive := fun _ => R8) (fun _ b c d e f g h => ⟨v, b, c, d, e, f, g, h⟩) g, h⟩) b, c, d⟩) s⟩,
  ⟨fun s => Slots.rec (motive := fun _ => SV) (fun _ _ b _ _ => Q8.rec (motive := fun _ => SV) (fun _ _ _ _ _ _ g _ => R8.rec (motive := fun _ => SV) (fun _ b _ _ _ _ _ _ => b) g) b) s, fun s v => Slots.rec (motive := fun _ => Slots) (fun n a b c d => ⟨n, a, Q8.rec (motive := fun _ => Q8) (fun a b c d e f g h => ⟨a, b, c, d, e, f, R8.rec (motive := fun _ => R8) (fun a _ c d e f g h => ⟨a, v, c, d, e, f, g, h⟩) g, h⟩) b, c, d⟩) s⟩,
  ⟨fun s => Slots.rec (motive := fun _ => SV) (fun _ _ b _ _ => Q8.rec (motive := fun _ => SV) (fun _ _ _ _ _ _ g _ => R8.rec (motive := fun _ => SV) (fun _ _ c _ _ _ _ _ => c) g) b) s, fun s v => Slots.rec (motive := fun _ => Slots) (fun n a b c d => ⟨n, a, Q8.rec (motive := fun _ => Q8) (fun a b c d e f g h => ⟨a, b, c, d, e, f, R8.rec (motive := fun _ => R8) (fun a b _ d e f g h => ⟨a, b, v, d, e, f, g, h⟩) g, h⟩) b, c, d⟩) s⟩,
  ⟨fun s => Slots.rec (motive := fun _ => SV) (fun _ _ b _ _ => Q8.rec (motive := fun _ => SV) (fun _ _ _ _ _ _ g _ => R8.rec (motive := fun _ => SV) (fun _ _ _ d _ _ _ _ => d) g) b) s, fun s v => Slots.rec (motive := fun _ => Slots) (fun n a b c d => ⟨n, a, Q8.rec (motive := fun _ => Q8) (fun a b c d e f g h => ⟨a, b, c, d, e, f, R8.rec (motive := fun _ => R8) (fun a b c _ e f g h => ⟨a, b, c, v, e, f, g, h⟩) g, h⟩) b, c, d⟩) s⟩,
  ⟨fun s => Slots.rec (motive := fun _ => SV) (fun _ _ b _ _ => Q8.rec (motive := fun _ => SV) (fun _ _ _ _ _ _ g _ => R8.rec (motive := fun _ => SV) (fun _ _ _ _ e _ _ _ => e) g) b) s, fun s v => Slots.rec (motive := fun _ => Slots) (fun n a b c d => ⟨n, a, Q8.rec (motive := fun _ => Q8) (fun a b c d e f g h => ⟨a, b, c, d, e, f, R8.rec (motive := fun _ => R8) (fun a b c d _ f g h => ⟨a, b, c, d, v, f, g, h⟩) g, h⟩) b, c, d⟩) s⟩,
  ⟨fun s => Slots.rec (motive := fun _ => SV) (fun _ _ b _ _ => Q8.rec (motive := fun _ => SV) (fun _ _ _ _ _ _ g _ => R8.rec (motive := fun _ => SV) (fun _ _ _ _ _ f _ _ => f) g) b) s, fun s v => Slots.rec (motive := fun _ => Slots) (fun n a b c d => ⟨n, a, Q8.rec (motive := fun _ => Q8) (fun a b c d e f g h => ⟨a, b, c, d, e, f, R8.rec (motive := fun _ => R8) (fun a b c d e _ g h => ⟨a, b, c, d, e, v, g, h⟩) g, h⟩) b, c, d⟩) s⟩,
  ⟨fun s => Slots.rec (motive := fun _ => SV) (fun _ _ b _ _ => Q8.rec (motive := fun _ => SV) (fun _ _ _ _ _ _ g _ => R8.rec (motive := fun _ => SV) (fun _ _ _ _ _ _ g _ => g) g) b) s, fun s v => Slots.rec (motive := fun _ => Slots) (fun n a b c d => ⟨n, a, Q8.rec (motive := fun _ => Q8) (fun a b c d e f g h => ⟨a, b, c, d, e, f, R8.rec (motive := fun _ => R8) (fun a b c d e f _ h => ⟨a, b, c, d, e, f, v, h⟩) g, h⟩) b, c, d⟩) s⟩,
  ⟨fun s => Slots.rec (motive := fun _ => SV) (fun _ _ b _ _ => Q8.rec (motive := fun _ => SV) (fun _ _ _ _ _ _ g _ => R8.rec (motive := fun _ => SV) (fun _ _ _ _ _ _ _ h => h) g) b) s, fun s v => Slots.rec (motive := fun _ => Slots) (fun n a b c d => ⟨n, a, Q8.rec (motive := fun _ => Q8) (fun a b c d e f g h => ⟨a, b, c, d, e, f, R8.rec (motive := fun _ => R8) (fun a b c d e f g _ => ⟨a, b, c, d, e, f, g, v⟩) g, h⟩) b, c, d⟩) s⟩,
  ⟨fun s => Slots.rec (motive := fun _ => SV) (fun _ _ b _ _ => Q8.rec (motive := fun _ => SV) (fun _ _ _ _ _ _ _ h => R8.rec (motive := fun _ => SV) (fun a _ _ _ _ _ _ _ => a) h) b) s, fun s v => Slots.rec (motive := fun _ => Slots) (fun n a b c d => ⟨n, a, Q8.rec (motive := fun _ => Q8) (fun a b c d e f g h => ⟨a, b, c, d, e, f, g, R8.rec (motive := fun _ => R8) (fun _ b c d e f g h => ⟨v, b, c, d, e, f, g, h⟩) h⟩) b, c, d⟩) s⟩,
  ⟨fun s => Slots.rec (motive := fun _ => SV) (fun _ _ b _ _ => Q8.rec (motive := fun _ => SV) (fun _ _ _ _ _ _ _ h => R8.rec (motive := fun _ => SV) (fun _ b _ _ _ _ _ _ => b) h) b) s, fun s v => Slots.rec (motive := fun _ => Slots) (fun n a b c d => ⟨n, a, Q8.rec (motive := fun _ => Q8) (fun a b c d e f g h => ⟨a, b, c, d, e, f, g, R8.rec (motive := fun _ => R8) (fun a _ c d e f g h => ⟨a, v, c, d, e, f, g, h⟩) h⟩) b, c, d⟩) s⟩,
  ⟨fun s => Slots.rec (motive := fun _ => SV) (fun _ _ b _ _ => Q8.rec (motive := fun _ => SV) (fun _ _ _ _ _ _ _ h => R8.rec (motive := fun _ => SV) (fun _ _ c _ _ _ _ _ => c) h) b) s, fun s v => Slots.rec (motive := fun _ => Slots) (fun n a b c d => ⟨n, a, Q8.rec (motive := fun _ => Q8) (fun a b c d e f g h => ⟨a, b, c, d, e, f, g, R8.rec (motive := fun _ => R8) (fun a b _ d e f g h => ⟨a, b, v, d, e, f, g, h⟩) h⟩) b, c, d⟩) s⟩,
  ⟨fun s => Slots.rec (motive := fun _ => SV) (fun _ _ b _ _ => Q8.rec (motive := fun _ => SV) (fun _ _ _ _ _ _ _ h => R8.rec (motive := fun _ => SV) (fun _ _ _ d _ _ _ _ => d) h) b) s, fun s v => Slots.rec (motive := fun _ => Slots) (fun n a b c d => ⟨n, a, Q8.rec (motive := fun _ => Q8) (fun a b c d e f g h => ⟨a, b, c, d, e, f, g, R8.rec (motive := fun _ => R8) (fun a b c _ e f g h => ⟨a, b, c, v, e, f, g, h⟩) h⟩) b, c, d⟩) s⟩,
  ⟨fun s => Slots.rec (motive := fun _ => SV) (fun _ _ b _ _ => Q8.rec (motive := fun _ => SV) (fun _ _ _ _ _ _ _ h => R8.rec (motive := fun _ => SV) (fun _ _ _ _ e _ _ _ => e) h) b) s, fun s v => Slots.rec (motive := fun _ => Slots) (fun n a b c d => ⟨n, a, Q8.rec (motive := fun _ => Q8) (fun a b c d e f g h => ⟨a, b, c, d, e, f, g, R8.rec (motive := fun _ => R8) (fun a b c d _ f g h => ⟨a, b, c, d, v, f, g, h⟩) h⟩) b, c, d⟩) s⟩,
  ⟨fun s => Slots.rec (motive := fun _ => SV) (fun _ _ b _ _ => Q8.rec (motive := fun _ => SV) (fun _ _ _ _ _ _ _ h => R8.rec (motive := fun _ => SV) (fun _ _ _ _ _ f _ _ => f) h) b) s, fun s v => Slots.rec (motive := fun _ => Slots) (fun n a b c d => ⟨n, a, Q8.rec (motive := fun _ => Q8) (fun a b c d e f g h => ⟨a, b, c, d, e, f, g, R8.rec (motive := fun _ => R8) (fun a b c d e _ g h => ⟨a, b, c, d, e, v, g, h⟩) h⟩) b, c, d⟩) s⟩,
  ⟨fun s => Slots.rec (motive := fun _ => SV) (fun _ _ b _ _ => Q8.rec (motive := fun _ => SV) (fun _ _ _ _ _ _ _ h => R8.rec (motive := fun _ => SV) (fun _ _ _ _ _ _ g _ => g) h) b) s, fun s v => Slots.rec (motive := fun _ => Slots) (fun n a b c d => ⟨n, a, Q8.rec (motive := fun _ => Q8) (fun a b c d e f g h => ⟨a, b, c, d, e, f, g, R8.rec (motive := fun _ => R8) (fun a b c d e f _ h => ⟨a, b, c, d, e, f, v, h⟩) h⟩) b, c, d⟩) s⟩,
  ⟨fun s => Slots.rec (motive := fun _ => SV) (fun _ _ b _ _ => Q8.rec (motive := fun _ => SV) (fun _ _ _ _ _ _ _ h => R8.rec (motive := fun _ => SV) (fun _ _ _ _ _ _ _ h => h) h) b) s, fun s v => Slots.rec (motive := fun _ => Slots) (fun n a b c d => ⟨n, a, Q8.rec (motive := fun _ => Q8) (fun a b c d e f g h => ⟨a, b, c, d, e, f, g, R8.rec (motive := fun _ => R8) (fun a b c d e f g _ => ⟨a, b, c, d, e, f, g, v⟩) h⟩) b, c, d⟩) s⟩]
noncomputable def accs2 : List Acc := [
  ⟨fun s => Slots.rec (motive := fun _ => SV) (fun _ _ _ c _ => Q8.rec (motive := fun _ => SV) (fun a _ _ _ _ _ _ _ => R8.rec (motive := fun _ => SV) (fun a _ _ _ _ _ _ _ => a) a) c) s, fun s v => Slots.rec (motive := fun _ => Slots) (fun n a b c d => ⟨n, a, b, Q8.rec (motive := fun _ => Q8) (fun a b c d e f g h => ⟨R8.rec (motive := fun _ => R8) (fun _ b c d e f g h => ⟨v, b, c, d, e, f, g, h⟩) a, b, c, d, e, f, g, h⟩) c, d⟩) s⟩,
  ⟨fun s => Slots.rec (motive := fun _ => SV) (fun _ _ _ c _ => Q8.rec (motive := fun _ => SV) (fun a _ _ _ _ _ _ _ => R8.rec (motive := fun _ => SV) (fun _ b _ _ _ _ _ _ => b) a) c) s, fun s v => Slots.rec (motive := fun _ => Slots) (fun n a b c d => ⟨n, a, b, Q8.rec (motive := fun _ => Q8) (fun a b c d e f g h => ⟨R8.rec (motive := fun _ => R8) (fun a _ c d e f g h => ⟨a, v, c, d, e, f, g, h⟩) a, b, c, d, e, f, g, h⟩) c, d⟩) s⟩,
  ⟨fun s => Slots.rec (motive := fun _ => SV) (fun _ _ _ c _ => Q8.rec (motive := fun _ => SV) (fun a _ _ _ _ _ _ _ => R8.rec (motive := fun _ => SV) (fun _ _ c _ _ _ _ _ => c) a) c) s, fun s v => Slots.rec (motive := fun _ => Slots) (fun n a b c d => ⟨n, a, b, Q8.rec (motive := fun _ => Q8) (fun a b c d e f g h => ⟨R8.rec (motive := fun _ => R8) (fun a b _ d e f g h => ⟨a, b, v, d, e, f, g, h⟩) a, b, c, d, e, f, g, h⟩) c, d⟩) s⟩,
  ⟨fun s => Slots.rec (motive := fun _ => SV) (fun _ _ _ c _ => Q8.rec (motive := fun _ => SV) (fun a _ _ _ _ _ _ _ => R8.rec (motive := fun _ => SV) (fun _ _ _ d _ _ _ _ => d) a) c) s, fun s v => Slots.rec (motive := fun _ => Slots) (fun n a b c d => ⟨n, a, b, Q8.rec (motive := fun _ => Q8) (fun a b c d e f g h => ⟨R8.rec (motive := fun _ => R8) (fun a b c _ e f g h => ⟨a, b, c, v, e, f, g, h⟩) a, b, c, d, e, f, g, h⟩) c, d⟩) s⟩,
  ⟨fun s => Slots.rec (motive := fun _ => SV) (fun _ _ _ c _ => Q8.rec (motive := fun _ => SV) (fun a _ _ _ _ _ _ _ => R8.rec (motive := fun _ => SV) (fun _ _ _ _ e _ _ _ => e) a) c) s, fun s v => Slots.rec (motive := fun _ => Slots) (fun n a b c d => ⟨n, a, b, Q8.rec (motive := fun _ => Q8) (fun a b c d e f g h => ⟨R8.rec (motive := fun _ => R8) (fun a b c d _ f g h => ⟨a, b, c, d, v, f, g, h⟩) a, b, c, d, e, f, g, h⟩) c, d⟩) s⟩,
  ⟨fun s => Slots.rec (motive := fun _ => SV) (fun _ _ _ c _ => Q8.rec (motive := fun _ => SV) (fun a _ _ _ _ _ _ _ => R8.rec (motive := fun _ => SV) (fun _ _ _ _ _ f _ _ => f) a) c) s, fun s v => Slots.rec (motive := fun _ => Slots) (fun n a b c d => ⟨n, a, b, Q8.rec (motive := fun _ => Q8) (fun a b c d e f g h => ⟨R8.rec (motive := fun _ => R8) (fun a b c d e _ g h => ⟨a, b, c, d, e, v, g, h⟩) a, b, c, d, e, f, g, h⟩) c, d⟩) s⟩,
  ⟨fun s => Slots.rec (motive := fun _ => SV) (fun _ _ _ c _ => Q8.rec (motive := fun _ => SV) (fun a _ _ _ _ _ _ _ => R8.rec (motive := fun _ => SV) (fun _ _ _ _ _ _ g _ => g) a) c) s, fun s v => Slots.rec (motive := fun _ => Slots) (fun n a b c d => ⟨n, a, b, Q8.rec (motive := fun _ => Q8) (fun a b c d e f g h => ⟨R8.rec (motive := fun _ => R8) (fun a b c d e f _ h => ⟨a, b, c, d, e, f, v, h⟩) a, b, c, d, e, f, g, h⟩) c, d⟩) s⟩,
  ⟨fun s => Slots.rec (motive := fun _ => SV) (fun _ _ _ c _ => Q8.rec (motive := fun _ => SV) (fun a _ _ _ _ _ _ _ => R8.rec (motive := fun _ => SV) (fun _ _ _ _ _ _ _ h => h) a) c) s, fun s v => Slots.rec (motive := fun _ => Slots) (fun n a b c d => ⟨n, a, b, Q8.rec (motive := fun _ => Q8) (fun a b c d e f g h => ⟨R8.rec (motive := fun _ => R8) (fun a b c d e f g _ => ⟨a, b, c, d, e, f, g, v⟩) a, b, c, d, e, f, g, h⟩) c, d⟩) s⟩,
  ⟨fun s => Slots.rec (motive := fun _ => SV) (fun _ _ _ c _ => Q8.rec (motive := fun _ => SV) (fun _ b _ _ _ _ _ _ => R8.rec (motive := fun _ => SV) (fun a _ _ _ _ _ _ _ => a) b) c) s, fun s v => Slots.rec (motive := fun _ => Slots) (fun n a b c d => ⟨n, a, b, Q8.rec (motive := fun _ => Q8) (fun a b c d e f g h => ⟨a, R8.rec (motive := fun _ => R8) (fun _ b c d e f g h => ⟨v, b, c, d, e, f, g, h⟩) b, c, d, e, f, g, h⟩) c, d⟩) s⟩,
  ⟨fun s => Slots.rec (motive := fun _ => SV) (fun _ _ _ c _ => Q8.rec (motive := fun _ => SV) (fun _ b _ _ _ _ _ _ => R8.rec (motive := fun _ => SV) (fun _ b _ _ _ _ _ _ => b) b) c) s, fun s v => Slots.rec (motive := fun _ => Slots) (fun n a b c d => ⟨n, a, b, Q8.rec (motive := fun _ => Q8) (fun a b c d e f g h => ⟨a, R8.rec (motive := fun _ => R8) (fun a _ c d e f g h => ⟨a, v, c, d, e, f, g, h⟩) b, c, d, e, f, g, h⟩) c, d⟩) s⟩,
  ⟨fun s => Slots.rec (motive := fun _ => SV) (fun _ _ _ c _ => Q8.rec (motive := fun _ => SV) (fun _ b _ _ _ _ _ _ => R8.rec (motive := fun _ => SV) (fun _ _ c _ _ _ _ _ => c) b) c) s, fun s v => Slots.rec (motive := fun _ => Slots) (fun n a b c d => ⟨n, a, b, Q8.rec (motive := fun _ => Q8) (fun a b c d e f g h => ⟨a, R8.rec (motive := fun _ => R8) (fun a b _ d e f g h => ⟨a, b, v, d, e, f, g, h⟩) b, c, d, e, f, g, h⟩) c, d⟩) s⟩,
  ⟨fun s => Slots.rec (motive := fun _ => SV) (fun _ _ _ c _ => Q8.rec (motive := fun _ => SV) (fun _ b _ _ _ _ _ _ => R8.rec (motive := fun _ => SV) (fun _ _ _ d _ _ _ _ => d) b) c) s, fun s v => Slots.rec (motive := fun _ => Slots) (fun n a b c d => ⟨n, a, b, Q8.rec (motive := fun _ => Q8) (fun a b c d e f g h => ⟨a, R8.rec (motive := fun _ => R8) (fun a b c _ e f g h => ⟨a, b, c, v, e, f, g, h⟩) b, c, d, e, f, g, h⟩) c, d⟩) s⟩,
  ⟨fun s => Slots.rec (motive := fun _ => SV) (fun _ _ _ c _ => Q8.rec (motive := fun _ => SV) (fun _ b _ _ _ _ _ _ => R8.rec (motive := fun _ => SV) (fun _ _ _ _ e _ _ _ => e) b) c) s, fun s v => Slots.rec (motive := fun _ => Slots) (fun n a b c d => ⟨n, a, b, Q8.rec (motive := fun _ => Q8) (fun a b c d e f g h => ⟨a, R8.rec (motive := fun _ => R8) (fun a b c d _ f g h => ⟨a, b, c, d, v, f, g, h⟩) b, c, d, e, f, g, h⟩) c, d⟩) s⟩,
  ⟨fun s => Slots.rec (motive := fun _ => SV) (fun _ _ _ c _ => Q8.rec (motive := fun _ => SV) (fun _ b _ _ _ _ _ _ => R8.rec (motive := fun _ => SV) (fun _ _ _ _ _ f _ _ => f) b) c) s, fun s v => Slots.rec (motive := fun _ => Slots) (fun n a b c d => ⟨n, a, b, Q8.rec (motive := fun _ => Q8) (fun a b c d e f g h => ⟨a, R8.rec (motive := fun _ => R8) (fun a b c d e _ g h => ⟨a, b, c, d, e, v, g, h⟩) b, c, d, e, f, g, h⟩) c, d⟩) s⟩,
  ⟨fun s => Slots.rec (motive := fun _ => SV) (fun _ _ _ c _ => Q8.rec (motive := fun _ => SV) (fun _ b _ _ _ _ _ _ => R8.rec (motive := fun _ => SV) (fun _ _ _ _ _ _ g _ => g) b) c) s, fun s v => Slots.rec (motive := fun _ => Slots) (fun n a b c d => ⟨n, a, b, Q8.rec (motive := fun _ => Q8) (fun a b c d e f g h => ⟨a, R8.rec (motive := fun _ => R8) (fun a b c d e f _ h => ⟨a, b, c, d, e, f, v, h⟩) b, c, d, e, f, g, h⟩) c, d⟩) s⟩,
  ⟨fun s => Slots.rec (motive := fun _ => SV) (fun _ _ _ c _ => Q8.rec (motive := fun _ => SV) (fun _ b _ _ _ _ _ _ => R8.rec (motive := fun _ => SV) (fun _ _ _ _ _ _ _ h => h) b) c) s, fun s v => Slots.rec (motive := fun _ => Slots) (fun n a b c d => ⟨n, a, b, Q8.rec (motive := fun _ => Q8) (fun a b c d e f g h => ⟨a, R8.rec (motive := fun _ => R8) (fun a b c d e f g _ => ⟨a, b, c, d, e, f, g, v⟩) b, c, d, e, f, g, h⟩) c, d⟩) s⟩,
  ⟨fun s => Slots.rec (motive := fun _ => SV) (fun _ _ _ c _ => Q8.rec (motive := fun _ => SV) (fun _ _ c _ _ _ _ _ => R8.rec (motive := fun _ => SV) (fun a _ _ _ _ _ _ _ => a) c) c) s, fun s v => Slots.rec (motive := fun _ => Slots) (fun n a b c d => ⟨n, a, b, Q8.rec (motive := fun _ => Q8) (fun a b c d e f g h => ⟨a, b, R8.rec (motive := fun _ => R8) (fun _ b c d e f g h => ⟨v, b, c, d, e, f, g, h⟩) c, d, e, f, g, h⟩) c, d⟩) s⟩,
  ⟨fun s => Slots.rec (motive := fun _ => SV) (fun _ _ _ c _ => Q8.rec (motive := fun _ => SV) (fun _ _ c _ _ _ _ _ => R8.rec (motive := fun _ => SV) (fun _ b _ _ _ _ _ _ => b) c) c) s, fun s v => Slots.rec (motive := fun _ => Slots) (fun n a b c d => ⟨n, a, b, Q8.rec (motive := fun _ => Q8) (fun a b c d e f g h => ⟨a, b, R8.rec (motive := fun _ => R8) (fun a _ c d e f g h => ⟨a, v, c, d, e, f, g, h⟩) c, d, e, f, g, h⟩) c, d⟩) s⟩,
  ⟨fun s => Slots.rec (motive := fun _ => SV) (fun _ _ _ c _ => Q8.rec (motive := fun _ => SV) (fun _ _ c _ _ _ _ _ => R8.rec (motive := fun _ => SV) (fun _ _ c _ _ _ _ _ => c) c) c) s, fun s v => Slots.rec (motive := fun _ => Slots) (fun n a b c d => ⟨n, a, b, Q8.rec (motive := fun _ => Q8) (fun a b c d e f g h => ⟨a, b, R8.rec (motive := fun _ => R8) (fun a b _ d e f g h => ⟨a, b, v, d, e, f, g, h⟩) c, d, e, f, g, h⟩) c, d⟩) s⟩,
  ⟨fun s => Slots.rec (motive := fun _ => SV) (fun _ _ _ c _ => Q8.rec (motive := fun _ => SV) (fun _ _ c _ _ _ _ _ => R8.rec (motive := fun _ => SV) (fun _ _ _ d _ _ _ _ => d) c) c) s, fun s v => Slots.rec (motive := fun _ => Slots) (fun n a b c d => ⟨n, a, b, Q8.rec (motive := fun _ => Q8) (fun a b c d e f g h => ⟨a, b, R8.rec (motive := fun _ => R8) (fun a b c _ e f g h => ⟨a, b, c, v, e, f, g, h⟩) c, d, e, f, g, h⟩) c, d⟩) s⟩,
  ⟨fun s => Slots.rec (motive := fun _ => SV) (fun _ _ _ c _ => Q8.rec (motive := fun _ => SV) (fun _ _ c _ _ _ _ _ => R8.rec (motive := fun _ => SV) (fun _ _ _ _ e _ _ _ => e) c) c) s, fun s v => Slots.rec (motive := fun _ => Slots) (fun n a b c d => ⟨n, a, b, Q8.rec (motive := fun _ => Q8) (fun a b c d e f g h => ⟨a, b, R8.rec (motive := fun _ => R8) (fun a b c d _ f g h => ⟨a, b, c, d, v, f, g, h⟩) c, d, e, f, g, h⟩) c, d⟩) s⟩,
  ⟨fun s => Slots.rec (motive := fun _ => SV) (fun _ _ _ c _ => Q8.rec (motive := fun _ => SV) (fun _ _ c _ _ _ _ _ => R8.rec (motive := fun _ => SV) (fun _ _ _ _ _ f _ _ => f) c) c) s, fun s v => Slots.rec (motive := fun _ => Slots) (fun n a b c d => ⟨n, a, b, Q8.rec (motive := fun _ => Q8) (fun a b c d e f g h => ⟨a, b, R8.rec (motive := fun _ => R8) (fun a b c d e _ g h => ⟨a, b, c, d, e, v, g, h⟩) c, d, e, f, g, h⟩) c, d⟩) s⟩,
  ⟨fun s => Slots.rec (motive := fun _ => SV) (fun _ _ _ c _ => Q8.rec (motive := fun _ => SV) (fun _ _ c _ _ _ _ _ => R8.rec (motive := fun _ => SV) (fun _ _ _ _ _ _ g _ => g) c) c) s, fun s v => Slots.rec (motive := fun _ => Slots) (fun n a b c d => ⟨n, a, b, Q8.rec (motive := fun _ => Q8) (fun a b c d e f g h => ⟨a, b, R8.rec (motive := fun _ => R8) (fun a b c d e f _ h => ⟨a, b, c, d, e, f, v, h⟩) c, d, e, f, g, h⟩) c, d⟩) s⟩,
  ⟨fun s => Slots.rec (motive := fun _ => SV) (fun _ _ _ c _ => Q8.rec (motive := fun _ => SV) (fun _ _ c _ _ _ _ _ => R8.rec (motive := fun _ => SV) (fun _ _ _ _ _ _ _ h => h) c) c) s, fun s v => Slots.rec (motive := fun _ => Slots) (fun n a b c d => ⟨n, a, b, Q8.rec (motive := fun _ => Q8) (fun a b c d e f g h => ⟨a, b, R8.rec (motive := fun _ => R8) (fun a b c d e f g _ => ⟨a, b, c, d, e, f, g, v⟩) c, d, e, f, g, h⟩) c, d⟩) s⟩,
  ⟨fun s => Slots.rec (motive := fun _ => SV) (fun _ _ _ c _ => Q8.rec (motive := fun _ => SV) (fun _ _ _ d _ _ _ _ => R8.rec (motive := fun _ => SV) (fun a _ _ _ _ _ _ _ => a) d) c) s, fun s v => Slots.rec (motive := fun _ => Slots) (fun n a b c d => ⟨n, a, b, Q8.rec (motive := fun _ => Q8) (fun a b c d e f g h => ⟨a, b, c, R8.rec (motive := fun _ => R8) (fun _ b c d e f g h => ⟨v, b, c, d, e, f, g, h⟩) d, e, f, g, h⟩) c, d⟩) s⟩,
  ⟨fun s => Slots.rec (motive := fun _ => SV) (fun _ _ _ c _ => Q8.rec (motive := fun _ => SV) (fun _ _ _ d _ _ _ _ => R8.rec (motive := fun _ => SV) (fun _ b _ _ _ _ _ _ => b) d) c) s, fun s v => Slots.rec (motive := fun _ => Slots) (fun n a b c d => ⟨n, a, b, Q8.rec (motive := fun _ => Q8) (fun a b c d e f g h => ⟨a, b, c, R8.rec (motive := fun _ => R8) (fun a _ c d e f g h => ⟨a, v, c, d, e, f, g, h⟩) d, e, f, g, h⟩) c, d⟩) s⟩,
  ⟨fun s => Slots.rec (motive := fun _ => SV) (fun _ _ _ c _ => Q8.rec (motive := fun _ => SV) (fun _ _ _ d _ _ _ _ => R8.rec (motive := fun _ => SV) (fun _ _ c _ _ _ _ _ => c) d) c) s, fun s v => Slots.rec (motive := fun _ => Slots) (fun n a b c d => ⟨n, a, b, Q8.rec (motive := fun _ => Q8) (fun a b c d e f g h => ⟨a, b, c, R8.rec (motive := fun _ => R8) (fun a b _ d e f g h => ⟨a, b, v, d, e, f, g, h⟩) d, e, f, g, h⟩) c, d⟩) s⟩,
  ⟨fun s => Slots.rec (motive := fun _ => SV) (fun _ _ _ c _ => Q8.rec (motive := fun _ => SV) (fun _ _ _ d _ _ _ _ => R8.rec (motive := fun _ => SV) (fun _ _ _ d _ _ _ _ => d) d) c) s, fun s v => Slots.rec (motive := fun _ => Slots) (fun n a b c d => ⟨n, a, b, Q8.rec (motive := fun _ => Q8) (fun a b c d e f g h => ⟨a, b, c, R8.rec (motive := fun _ => R8) (fun a b c _ e f g h => ⟨a, b, c, v, e, f, g, h⟩) d, e, f, g, h⟩) c, d⟩) s⟩,
  ⟨fun s => Slots.rec (motive := fun _ => SV) (fun _ _ _ c _ => Q8.rec (motive := fun _ => SV) (fun _ _ _ d _ _ _ _ => R8.rec (motive := fun _ => SV) (fun _ _ _ _ e _ _ _ => e) d) c) s, fun s v => Slots.rec (motive := fun _ => Slots) (fun n a b c d => ⟨n, a, b, Q8.rec (motive := fun _ => Q8) (fun a b c d e f g h => ⟨a, b, c, R8.rec (motive := fun _ => R8) (fun a b c d _ f g h => ⟨a, b, c, d, v, f, g, h⟩) d, e, f, g, h⟩) c, d⟩) s⟩,
  ⟨fun s => Slots.rec (motive := fun _ => SV) (fun _ _ _ c _ => Q8.rec (motive := fun _ => SV) (fun _ _ _ d _ _ _ _ => R8.rec (motive := fun _ => SV) (fun _ _ _ _ _ f _ _ => f) d) c) s, fun s v => Slots.rec (motive := fun _ => Slots) (fun n a b c d => ⟨n, a, b, Q8.rec (motive := fun _ => Q8) (fun a b c d e f g h => ⟨a, b, c, R8.rec (motive := fun _ => R8) (fun a b c d e _ g h => ⟨a, b, c, d, e, v, g, h⟩) d, e, f, g, h⟩) c, d⟩) s⟩,
  ⟨fun s => Slots.rec (motive := fun _ => SV) (fun _ _ _ c _ => Q8.rec (motive := fun _ => SV) (fun _ _ _ d _ _ _ _ => R8.rec (motive := fun _ => SV) (fun _ _ _ _ _ _ g _ => g) d) c) s, fun s v => Slots.rec (motive := fun _ => Slots) (fun n a b c d => ⟨n, a, b, Q8.rec (motive := fun _ => Q8) (fun a b c d e f g h => ⟨a, b, c, R8.rec (motive := fun _ => R8) (fun a b c d e f _ h => ⟨a, b, c, d, e, f, v, h⟩) d, e, f, g, h⟩) c, d⟩) s⟩,
  ⟨fun s => Slots.rec (motive := fun _ => SV) (fun _ _ _ c _ => Q8.rec (motive := fun _ => SV) (fun _ _ _ d _ _ _ _ => R8.rec (motive := fun _ => SV) (fun _ _ _ _ _ _ _ h => h) d) c) s, fun s v => Slots.rec (motive := fun _ => Slots) (fun n a b c d => ⟨n, a, b, Q8.rec (motive := fun _ => Q8) (fun a b c d e f g h => ⟨a, b, c, R8.rec (motive := fun _ => R8) (fun a b c d e f g _ => ⟨a, b, c, d, e, f, g, v⟩) d, e, f, g, h⟩) c, d⟩) s⟩,
  ⟨fun s => Slots.rec (motive := fun _ => SV) (fun _ _ _ c _ => Q8.rec (motive := fun _ => SV) (fun _ _ _ _ e _ _ _ => R8.rec (motive := fun _ => SV) (fun a _ _ _ _ _ _ _ => a) e) c) s, fun s v => Slots.rec (motive := fun _ => Slots) (fun n a b c d => ⟨n, a, b, Q8.rec (motive := fun _ => Q8) (fun a b c d e f g h => ⟨a, b, c, d, R8.rec (motive := fun _ => R8) (fun _ b c d e f g h => ⟨v, b, c, d, e, f, g, h⟩) e, f, g, h⟩) c, d⟩) s⟩,
  ⟨fun s => Slots.rec (motive := fun _ => SV) (fun _ _ _ c _ => Q8.rec (motive := fun _ => SV) (fun _ _ _ _ e _ _ _ => R8.rec (motive := fun _ => SV) (fun _ b _ _ _ _ _ _ => b) e) c) s, fun s v => Slots.rec (motive := fun _ => Slots) (fun n a b c d => ⟨n, a, b, Q8.rec (motive := fun _ => Q8) (fun a b c d e f g h => ⟨a, b, c, d, R8.rec (motive := fun _ => R8) (fun a _ c d e f g h => ⟨a, v, c, d, e, f, g, h⟩) e, f, g, h⟩) c, d⟩) s⟩,
  ⟨fun s => Slots.rec (motive := fun _ => SV) (fun _ _ _ c _ => Q8.rec (motive := fun _ => SV) (fun _ _ _ _ e _ _ _ => R8.rec (motive := fun _ => SV) (fun _ _ c _ _ _ _ _ => c) e) c) s, fun s v => Slots.rec (motive := fun _ => Slots) (fun n a b c d => ⟨n, a, b, Q8.rec (motive := fun _ => Q8) (fun a b c d e f g h => ⟨a, b, c, d, R8.rec (motive := fun _ => R8) (fun a b _ d e f g h => ⟨a, b, v, d, e, f, g, h⟩) e, f, g, h⟩) c, d⟩) s⟩,
  ⟨fun s => Slots.rec (motive := fun _ => SV) (fun _ _ _ c _ => Q8.rec (motive := fun _ => SV) (fun _ _ _ _ e _ _ _ => R8.rec (motive := fun _ => SV) (fun _ _ _ d _ _ _ _ => d) e) c) s, fun s v => Slots.rec (motive := fun _ => Slots) (fun n a b c d => ⟨n, a, b, Q8.rec (motive := fun _ => Q8) (fun a b c d e f g h => ⟨a, b, c, d, R8.rec (motive := fun _ => R8) (fun a b c _ e f g h => ⟨a, b, c, v, e, f, g, h⟩) e, f, g, h⟩) c, d⟩) s⟩,
  ⟨fun s => Slots.rec (motive := fun _ => SV) (fun _ _ _ c _ => Q8.rec (motive := fun _ => SV) (fun _ _ _ _ e _ _ _ => R8.rec (motive := fun _ => SV) (fun _ _ _ _ e _ _ _ => e) e) c) s, fun s v => Slots.rec (motive := fun _ => Slots) (fun n a b c d => ⟨n, a, b, Q8.rec (motive := fun _ => Q8) (fun a b c d e f g h => ⟨a, b, c, d, R8.rec (motive := fun _ => R8) (fun a b c d _ f g h => ⟨a, b, c, d, v, f, g, h⟩) e, f, g, h⟩) c, d⟩) s⟩,
  ⟨fun s => Slots.rec (motive := fun _ => SV) (fun _ _ _ c _ => Q8.rec (motive := fun _ => SV) (fun _ _ _ _ e _ _ _ => R8.rec (motive := fun _ => SV) (fun _ _ _ _ _ f _ _ => f) e) c) s, fun s v => Slots.rec (motive := fun _ => Slots) (fun n a b c d => ⟨n, a, b, Q8.rec (motive := fun _ => Q8) (fun a b c d e f g h => ⟨a, b, c, d, R8.rec (motive := fun _ => R8) (fun a b c d e _ g h => ⟨a, b, c, d, e, v, g, h⟩) e, f, g, h⟩) c, d⟩) s⟩,
  ⟨fun s => Slots.rec (motive := fun _ => SV) (fun _ _ _ c _ => Q8.rec (motive := fun _ => SV) (fun _ _ _ _ e _ _ _ => R8.rec (motive := fun _ => SV) (fun _ _ _ _ _ _ g _ => g) e) c) s, fun s v => Slots.rec (motive := fun _ => Slots) (fun n a b c d => ⟨n, a, b, Q8.rec (motive := fun _ => Q8) (fun a b c d e f g h => ⟨a, b, c, d, R8.rec (motive := fun _ => R8) (fun a b c d e f _ h => ⟨a, b, c, d, e, f, v, h⟩) e, f, g, h⟩) c, d⟩) s⟩,
  ⟨fun s => Slots.rec (motive := fun _ => SV) (fun _ _ _ c _ => Q8.rec (motive := fun _ => SV) (fun _ _ _ _ e _ _ _ => R8.rec (motive := fun _ => SV) (fun _ _ _ _ _ _ _ h => h) e) c) s, fun s v => Slots.rec (motive := fun _ => Slots) (fun n a b c d => ⟨n, a, b, Q8.rec (motive := fun _ => Q8) (fun a b c d e f g h => ⟨a, b, c, d, R8.rec (motive := fun _ => R8) (fun a b c d e f g _ => ⟨a, b, c, d, e, f, g, v⟩) e, f, g, h⟩) c, d⟩) s⟩,
  ⟨fun s => Slots.rec (motive := fun _ => SV) (fun _ _ _ c _ => Q8.rec (motive := fun _ => SV) (fun _ _ _ _ _ f _ _ => R8.rec (motive := fun _ => SV) (fun a _ _ _ _ _ _ _ => a) f) c) s, fun s v => Slots.rec (motive := fun _ => Slots) (fun n a b c d => ⟨n, a, b, Q8.rec (motive := fun _ => Q8) (fun a b c d e f g h => ⟨a, b, c, d, e, R8.rec (motive := fun _ => R8) (fun _ b c d e f g h => ⟨v, b, c, d, e, f, g, h⟩) f, g, h⟩) c, d⟩) s⟩,
  ⟨fun s => Slots.rec (motive := fun _ => SV) (fun _ _ _ c _ => Q8.rec (motive := fun _ => SV) (fun _ _ _ _ _ f _ _ => R8.rec (motive := fun _ => SV) (fun _ b _ _ _ _ _ _ => b) f) c) s, fun s v => Slots.rec (motive := fun _ => Slots) (fun n a b c d => ⟨n, a, b, Q8.rec (motive := fun _ => Q8) (fun a b c d e f g h => ⟨a, b, c, d, e, R8.rec (motive := fun _ => R8) (fun a _ c d e f g h => ⟨a, v, c, d, e, f, g, h⟩) f, g, h⟩) c, d⟩) s⟩,
  ⟨fun s => Slots.rec (motive := fun _ => SV) (fun _ _ _ c _ => Q8.rec (motive := fun _ => SV) (fun _ _ _ _ _ f _ _ => R8.rec (motive := fun _ => SV) (fun _ _ c _ _ _ _ _ => c) f) c) s, fun s v => Slots.rec (motive := fun _ => Slots) (fun n a b c d => ⟨n, a, b, Q8.rec (motive := fun _ => Q8) (fun a b c d e f g h => ⟨a, b, c, d, e, R8.rec (motive := fun _ => R8) (fun a b _ d e f g h => ⟨a, b, v, d, e, f, g, h⟩) f, g, h⟩) c, d⟩) s⟩,
  ⟨fun s => Slots.rec (motive := fun _ => SV) (fun _ _ _ c _ => Q8.rec (motive := fun _ => SV) (fun _ _ _ _ _ f _ _ => R8.rec (motive := fun _ => SV) (fun _ _ _ d _ _ _ _ => d) f) c) s, fun s v => Slots.rec (motive := fun _ => Slots) (fun n a b c d => ⟨n, a, b, Q8.rec (motive := fun _ => Q8) (fun a b c d e f g h => ⟨a, b, c, d, e, R8.rec (motive := fun _ => R8) (fun a b c _ e f g h => ⟨a, b, c, v, e, f, g, h⟩) f, g, h⟩) c, d⟩) s⟩,
  ⟨fun s => Slots.rec (motive := fun _ => SV) (fun _ _ _ c _ => Q8.rec (motive := fun _ => SV) (fun _ _ _ _ _ f _ _ => R8.rec (motive := fun _ => SV) (fun _ _ _ _ e _ _ _ => e) f) c) s, fun s v => Slots.rec (motive := fun _ => Slots) (fun n a b c d => ⟨n, a, b, Q8.rec (motive := fun _ => Q8) (fun a b c d e f g h => ⟨a, b, c, d, e, R8.rec (motive := fun _ => R8) (fun a b c d _ f g h => ⟨a, b, c, d, v, f, g, h⟩) f, g, h⟩) c, d⟩) s⟩,
  ⟨fun s => Slots.rec (motive := fun _ => SV) (fun _ _ _ c _ => Q8.rec (motive := fun _ => SV) (fun _ _ _ _ _ f _ _ => R8.rec (motive := fun _ => SV) (fun _ _ _ _ _ f _ _ => f) f) c) s, fun s v => Slots.rec (motive := fun _ => Slots) (fun n a b c d => ⟨n, a, b, Q8.rec (motive := fun _ => Q8) (fun a b c d e f g h => ⟨a, b, c, d, e, R8.rec (motive := fun _ => R8) (fun a b c d e _ g h => ⟨a, b, c, d, e, v, g, h⟩) f, g, h⟩) c, d⟩) s⟩,
  ⟨fun s => Slots.rec (motive := fun _ => SV) (fun _ _ _ c _ => Q8.rec (motive := fun _ => SV) (fun _ _ _ _ _ f _ _ => R8.rec (motive := fun _ => SV) (fun _ _ _ _ _ _ g _ => g) f) c) s, fun s v => Slots.rec (motive := fun _ => Slots) (fun n a b c d => ⟨n, a, b, Q8.rec (motive := fun _ => Q8) (fun a b c d e f g h => ⟨a, b, c, d, e, R8.rec (motive := fun _ => R8) (fun a b c d e f _ h => ⟨a, b, c, d, e, f, v, h⟩) f, g, h⟩) c, d⟩) s⟩,
  ⟨fun s => Slots.rec (motive := fun _ => SV) (fun _ _ _ c _ => Q8.rec (motive := fun _ => SV) (fun _ _ _ _ _ f _ _ => R8.rec (motive := fun _ => SV) (fun _ _ _ _ _ _ _ h => h) f) c) s, fun s v => Slots.rec (motive := fun _ => Slots) (fun n a b c d => ⟨n, a, b, Q8.rec (motive := fun _ => Q8) (fun a b c d e f g h => ⟨a, b, c, d, e, R8.rec (motive := fun _ => R8) (fun a b c d e f g _ => ⟨a, b, c, d, e, f, g, v⟩) f, g, h⟩) c, d⟩) s⟩,
  ⟨fun s => Slots.rec (motive := fun _ => SV) (fun _ _ _ c _ => Q8.rec (motive := fun _ => SV) (fun _ _ _ _ _ _ g _ => R8.rec (motive := fun _ => SV) (fun a _ _ _ _ _ _ _ => a) g) c) s, fun s v => Slots.rec (motive := fun _ => Slots) (fun n a b c d => ⟨n, a, b, Q8.rec (motive := fun _ => Q8) (fun a b c d e f g h => ⟨a, b, c, d, e, f, R8.rec (motive := fun _ => R8) (fun _ b c d e f g h => ⟨v, b, c, d, e, f, g, h⟩) g, h⟩) c, d⟩) s⟩,
  ⟨fun s => Slots.rec (motive := fun _ => SV) (fun _ _ _ c _ => Q8.rec (motive := fun _ => SV) (fun _ _ _ _ _ _ g _ => R8.rec (motive := fun _ => SV) (fun _ b _ _ _ _ _ _ => b) g) c) s, fun s v => Slots.rec (motive := fun _ => Slots) (fun n a b c d => ⟨n, a, b, Q8.rec (motive := fun _ => Q8) (fun a b c d e f g h => ⟨a, b, c, d, e, f, R8.rec (motive := fun _ => R8) (fun a _ c d e f g h => ⟨a, v, c, d, e, f, g, h⟩) g, h⟩) c, d⟩) s⟩,
  ⟨fun s => Slots.rec (motive := fun _ => SV) (fun _ _ _ c _ => Q8.rec (motive := fun _ => SV) (fun _ _ _ _ _ _ g _ => R8.rec (motive := fun _ => SV) (fun _ _ c _ _ _ _ _ => c) g) c) s, fun s v => Slots.rec (motive := fun _ => Slots) (fun n a b c d => ⟨n, a, b, Q8.rec (motive := fun _ => Q8) (fun a b c d e f g h => ⟨a, b, c, d, e, f, R8.rec (motive := fun _ => R8) (fun a b _ d e f g h => ⟨a, b, v, d, e, f, g, h⟩) g, h⟩) c, d⟩) s⟩,
  ⟨fun s => Slots.rec (motive := fun _ => SV) (fun _ _ _ c _ => Q8.rec (motive := fun _ => SV) (fun _ _ _ _ _ _ g _ => R8.rec (motive := fun _ => SV) (fun _ _ _ d _ _ _ _ => d) g) c) s, fun s v => Slots.rec (motive := fun _ => Slots) (fun n a b c d => ⟨n, a, b, Q8.rec (motive := fun _ => Q8) (fun a b c d e f g h => ⟨a, b, c, d, e, f, R8.rec (motive := fun _ => R8) (fun a b c _ e f g h => ⟨a, b, c, v, e, f, g, h⟩) g, h⟩) c, d⟩) s⟩,
  ⟨fun s => Slots.rec (motive := fun _ => SV) (fun _ _ _ c _ => Q8.rec (motive := fun _ => SV) (fun _ _ _ _ _ _ g _ => R8.rec (motive := fun _ => SV) (fun _ _ _ _ e _ _ _ => e) g) c) s, fun s v => Slots.rec (motive := fun _ => Slots) (fun n a b c d => ⟨n, a, b, Q8.rec (motive := fun _ => Q8) (fun a b c d e f g h => ⟨a, b, c, d, e, f, R8.rec (motive := fun _ => R8) (fun a b c d _ f g h => ⟨a, b, c, d, v, f, g, h⟩) g, h⟩) c, d⟩) s⟩,
  ⟨fun s => Slots.rec (motive := fun _ => SV) (fun _ _ _ c _ => Q8.rec (motive := fun _ => SV) (fun _ _ _ _ _ _ g _ => R8.rec (motive := fun _ => SV) (fun _ _ _ _ _ f _ _ => f) g) c) s, fun s v => Slots.rec (motive := fun _ => Slots) (fun n a b c d => ⟨n, a, b, Q8.rec (motive := fun _ => Q8) (fun a b c d e f g h => ⟨a, b, c, d, e, f, R8.rec (motive := fun _ => R8) (fun a b c d e _ g h => ⟨a, b, c, d, e, v, g, h⟩) g, h⟩) c, d⟩) s⟩,
  ⟨fun s => Slots.rec (motive := fun _ => SV) (fun _ _ _ c _ => Q8.rec (motive := fun _ => SV) (fun _ _ _ _ _ _ g _ => R8.rec (motive := fun _ => SV) (fun _ _ _ _ _ _ g _ => g) g) c) s, fun s v => Slots.rec (motive := fun _ => Slots) (fun n a b c d => ⟨n, a, b, Q8.rec (motive := fun _ => Q8) (fun a b c d e f g h => ⟨a, b, c, d, e, f, R8.rec (motive := fun _ => R8) (fun a b c d e f _ h => ⟨a, b, c, d, e, f, v, h⟩) g, h⟩) c, d⟩) s⟩,
  ⟨fun s => Slots.rec (motive := fun _ => SV) (fun _ _ _ c _ => Q8.rec (motive := fun _ => SV) (fun _ _ _ _ _ _ g _ => R8.rec (motive := fun _ => SV) (fun _ _ _ _ _ _ _ h => h) g) c) s, fun s v => Slots.rec (motive := fun _ => Slots) (fun n a b c d => ⟨n, a, b, Q8.rec (motive := fun _ => Q8) (fun a b c d e f g h => ⟨a, b, c, d, e, f, R8.rec (motive := fun _ => R8) (fun a b c d e f g _ => ⟨a, b, c, d, e, f, g, v⟩) g, h⟩) c, d⟩) s⟩,
  ⟨fun s => Slots.rec (motive := fun _ => SV) (fun _ _ _ c _ => Q8.rec (motive := fun _ => SV) (fun _ _ _ _ _ _ _ h => R8.rec (motive := fun _ => SV) (fun a _ _ _ _ _ _ _ => a) h) c) s, fun s v => Slots.rec (motive := fun _ => Slots) (fun n a b c d => ⟨n, a, b, Q8.rec (motive := fun _ => Q8) (fun a b c d e f g h => ⟨a, b, c, d, e, f, g, R8.rec (motive := fun _ => R8) (fun _ b c d e f g h => ⟨v, b, c, d, e, f, g, h⟩) h⟩) c, d⟩) s⟩,
  ⟨fun s => Slots.rec (motive := fun _ => SV) (fun _ _ _ c _ => Q8.rec (motive := fun _ => SV) (fun _ _ _ _ _ _ _ h => R8.rec (motive := fun _ => SV) (fun _ b _ _ _ _ _ _ => b) h) c) s, fun s v => Slots.rec (motive := fun _ => Slots) (fun n a b c d => ⟨n, a, b, Q8.rec (motive := fun _ => Q8) (fun a b c d e f g h => ⟨a, b, c, d, e, f, g, R8.rec (motive := fun _ => R8) (fun a _ c d e f g h => ⟨a, v, c, d, e, f, g, h⟩) h⟩) c, d⟩) s⟩,
  ⟨fun s => Slots.rec (motive := fun _ => SV) (fun _ _ _ c _ => Q8.rec (motive := fun _ => SV) (fun _ _ _ _ _ _ _ h => R8.rec (motive := fun _ => SV) (fun _ _ c _ _ _ _ _ => c) h) c) s, fun s v => Slots.rec (motive := fun _ => Slots) (fun n a b c d => ⟨n, a, b, Q8.rec (motive := fun _ => Q8) (fun a b c d e f g h => ⟨a, b, c, d, e, f, g, R8.rec (motive := fun _ => R8) (fun a b _ d e f g h => ⟨a, b, v, d, e, f, g, h⟩) h⟩) c, d⟩) s⟩,
  ⟨fun s => Slots.rec (motive := fun _ => SV) (fun _ _ _ c _ => Q8.rec (motive := fun _ => SV) (fun _ _ _ _ _ _ _ h => R8.rec (motive := fun _ => SV) (fun _ _ _ d _ _ _ _ => d) h) c) s, fun s v => Slots.rec (motive := fun _ => Slots) (fun n a b c d => ⟨n, a, b, Q8.rec (motive := fun _ => Q8) (fun a b c d e f g h => ⟨a, b, c, d, e, f, g, R8.rec (motive := fun _ => R8) (fun a b c _ e f g h => ⟨a, b, c, v, e, f, g, h⟩) h⟩) c, d⟩) s⟩,
  ⟨fun s => Slots.rec (motive := fun _ => SV) (fun _ _ _ c _ => Q8.rec (motive := fun _ => SV) (fun _ _ _ _ _ _ _ h => R8.rec (motive := fun _ => SV) (fun _ _ _ _ e _ _ _ => e) h) c) s, fun s v => Slots.rec (motive := fun _ => Slots) (fun n a b c d => ⟨n, a, b, Q8.rec (motive := fun _ => Q8) (fun a b c d e f g h => ⟨a, b, c, d, e, f, g, R8.rec (motive := fun _ => R8) (fun a b c d _ f g h => ⟨a, b, c, d, v, f, g, h⟩) h⟩) c, d⟩) s⟩,
  ⟨fun s => Slots.rec (motive := fun _ => SV) (fun _ _ _ c _ => Q8.rec (motive := fun _ => SV) (fun _ _ _ _ _ _ _ h => R8.rec (motive := fun _ => SV) (fun _ _ _ _ _ f _ _ => f) h) c) s, fun s v => Slots.rec (motive := fun _ => Slots) (fun n a b c d => ⟨n, a, b, Q8.rec (motive := fun _ => Q8) (fun a b c d e f g h => ⟨a, b, c, d, e, f, g, R8.rec (motive := fun _ => R8) (fun a b c d e _ g h => ⟨a, b, c, d, e, v, g, h⟩) h⟩) c, d⟩) s⟩,
  ⟨fun s => Slots.rec (motive := fun _ => SV) (fun _ _ _ c _ => Q8.rec (motive := fun _ => SV) (fun _ _ _ _ _ _ _ h => R8.rec (motive := fun _ => SV) (fun _ _ _ _ _ _ g _ => g) h) c) s, fun s v => Slots.rec (motive := fun _ => Slots) (fun n a b c d => ⟨n, a, b, Q8.rec (motive := fun _ => Q8) (fun a b c d e f g h => ⟨a, b, c, d, e, f, g, R8.rec (motive := fun _ => R8) (fun a b c d e f _ h => ⟨a, b, c, d, e, f, v, h⟩) h⟩) c, d⟩) s⟩,
  ⟨fun s => Slots.rec (motive := fun _ => SV) (fun _ _ _ c _ => Q8.rec (motive := fun _ => SV) (fun _ _ _ _ _ _ _ h => R8.rec (motive := fun _ => SV) (fun _ _ _ _ _ _ _ h => h) h) c) s, fun s v => Slots.rec (motive := fun _ => Slots) (fun n a b c d => ⟨n, a, b, Q8.rec (motive := fun _ => Q8) (fun a b c d e f g h => ⟨a, b, c, d, e, f, g, R8.rec (motive := fun _ => R8) (fun a b c d e f g _ => ⟨a, b, c, d, e, f, g, v⟩) h⟩) c, d⟩) s⟩]
noncomputable def accs3 : List Acc := [
  ⟨fun s => Slots.rec (motive := fun _ => SV) (fun _ _ _ _ d => Q8.rec (motive := fun _ => SV) (fun a _ _ _ _ _ _ _ => R8.rec (motive := fun _ => SV) (fun a _ _ _ _ _ _ _ => a) a) d) s, fun s v => Slots.rec (motive := fun _ => Slots) (fun n a b c d => ⟨n, a, b, c, Q8.rec (motive := fun _ => Q8) (fun a b c d e f g h => ⟨R8.rec (motive := fun _ => R8) (fun _ b c d e f g h => ⟨v, b, c, d, e, f, g, h⟩) a, b, c, d, e, f, g, h⟩) d⟩) s⟩,
  ⟨fun s => Slots.rec (motive := fun _ => SV) (fun _ _ _ _ d => Q8.rec (motive := fun _ => SV) (fun a _ _ _ _ _ _ _ => R8.rec (motive := fun _ => SV) (fun _ b _ _ _ _ _ _ => b) a) d) s, fun s v => Slots.rec (motive := fun _ => Slots) (fun n a b c d => ⟨n, a, b, c, Q8.rec (motive := fun _ => Q8) (fun a b c d e f g h => ⟨R8.rec (motive := fun _ => R8) (fun a _ c d e f g h => ⟨a, v, c, d, e, f, g, h⟩) a, b, c, d, e, f, g, h⟩) d⟩) s⟩,
  ⟨fun s => Slots.rec (motive := fun _ => SV) (fun _ _ _ _ d => Q8.rec (motive := fun _ => SV) (fun a _ _ _ _ _ _ _ => R8.rec (motive := fun _ => SV) (fun _ _ c _ _ _ _ _ => c) a) d) s, fun s v => Slots.rec (motive := fun _ => Slots) (fun n a b c d => ⟨n, a, b, c, Q8.rec (motive := fun _ => Q8) (fun a b c d e f g h => ⟨R8.rec (motive := fun _ => R8) (fun a b _ d e f g h => ⟨a, b, v, d, e, f, g, h⟩) a, b, c, d, e, f, g, h⟩) d⟩) s⟩,
  ⟨fun s => Slots.rec (motive := fun _ => SV) (fun _ _ _ _ d => Q8.rec (motive := fun _ => SV) (fun a _ _ _ _ _ _ _ => R8.rec (motive := fun _ => SV) (fun _ _ _ d _ _ _ _ => d) a) d) s, fun s v => Slots.rec (motive := fun _ => Slots) (fun n a b c d => ⟨n, a, b, c, Q8.rec (motive := fun _ => Q8) (fun a b c d e f g h => ⟨R8.rec (motive := fun _ => R8) (fun a b c _ e f g h => ⟨a, b, c, v, e, f, g, h⟩) a, b, c, d, e, f, g, h⟩) d⟩) s⟩,
  ⟨fun s => Slots.rec (motive := fun _ => SV) (fun _ _ _ _ d => Q8.rec (motive := fun _ => SV) (fun a _ _ _ _ _ _ _ => R8.rec (motive := fun _ => SV) (fun _ _ _ _ e _ _ _ => e) a) d) s, fun s v => Slots.rec (motive := fun _ => Slots) (fun n a b c d => ⟨n, a, b, c, Q8.rec (motive := fun _ => Q8) (fun a b c d e f g h => ⟨R8.rec (motive := fun _ => R8) (fun a b c d _ f g h => ⟨a, b, c, d, v, f, g, h⟩) a, b, c, d, e, f, g, h⟩) d⟩) s⟩,
  ⟨fun s => Slots.rec (motive := fun _ => SV) (fun _ _ _ _ d => Q8.rec (motive := fun _ => SV) (fun a _ _ _ _ _ _ _ => R8.rec (motive := fun _ => SV) (fun _ _ _ _ _ f _ _ => f) a) d) s, fun s v => Slots.rec (motive := fun _ => Slots) (fun n a b c d => ⟨n, a, b, c, Q8.rec (motive := fun _ => Q8) (fun a b c d e f g h => ⟨R8.rec (motive := fun _ => R8) (fun a b c d e _ g h => ⟨a, b, c, d, e, v, g, h⟩) a, b, c, d, e, f, g, h⟩) d⟩) s⟩,
  ⟨fun s => Slots.rec (motive := fun _ => SV) (fun _ _ _ _ d => Q8.rec (motive := fun _ => SV) (fun a _ _ _ _ _ _ _ => R8.rec (motive := fun _ => SV) (fun _ _ _ _ _ _ g _ => g) a) d) s, fun s v => Slots.rec (motive := fun _ => Slots) (fun n a b c d => ⟨n, a, b, c, Q8.rec (motive := fun _ => Q8) (fun a b c d e f g h => ⟨R8.rec (motive := fun _ => R8) (fun a b c d e f _ h => ⟨a, b, c, d, e, f, v, h⟩) a, b, c, d, e, f, g, h⟩) d⟩) s⟩,
  ⟨fun s => Slots.rec (motive := fun _ => SV) (fun _ _ _ _ d => Q8.rec (motive := fun _ => SV) (fun a _ _ _ _ _ _ _ => R8.rec (motive := fun _ => SV) (fun _ _ _ _ _ _ _ h => h) a) d) s, fun s v => Slots.rec (motive := fun _ => Slots) (fun n a b c d => ⟨n, a, b, c, Q8.rec (motive := fun _ => Q8) (fun a b c d e f g h => ⟨R8.rec (motive := fun _ => R8) (fun a b c d e f g _ => ⟨a, b, c, d, e, f, g, v⟩) a, b, c, d, e, f, g, h⟩) d⟩) s⟩,
  ⟨fun s => Slots.rec (motive := fun _ => SV) (fun _ _ _ _ d => Q8.rec (motive := fun _ => SV) (fun _ b _ _ _ _ _ _ => R8.rec (motive := fun _ => SV) (fun a _ _ _ _ _ _ _ => a) b) d) s, fun s v => Slots.rec (motive := fun _ => Slots) (fun n a b c d => ⟨n, a, b, c, Q8.rec (motive := fun _ => Q8) (fun a b c d e f g h => ⟨a, R8.rec (motive := fun _ => R8) (fun _ b c d e f g h => ⟨v, b, c, d, e, f, g, h⟩) b, c, d, e, f, g, h⟩) d⟩) s⟩,
  ⟨fun s => Slots.rec (motive := fun _ => SV) (fun _ _ _ _ d => Q8.rec (motive := fun _ => SV) (fun _ b _ _ _ _ _ _ => R8.rec (motive := fun _ => SV) (fun _ b _ _ _ _ _ _ => b) b) d) s, fun s v => Slots.rec (motive := fun _ => Slots) (fun n a b c d => ⟨n, a, b, c, Q8.rec (motive := fun _ => Q8) (fun a b c d e f g h => ⟨a, R8.rec (motive := fun _ => R8) (fun a _ c d e f g h => ⟨a, v, c, d, e, f, g, h⟩) b, c, d, e, f, g, h⟩) d⟩) s⟩,
  ⟨fun s => Slots.rec (motive := fun _ => SV) (fun _ _ _ _ d => Q8.rec (motive := fun _ => SV) (fun _ b _ _ _ _ _ _ => R8.rec (motive := fun _ => SV) (fun _ _ c _ _ _ _ _ => c) b) d) s, fun s v => Slots.rec (motive := fun _ => Slots) (fun n a b c d => ⟨n, a, b, c, Q8.rec (motive := fun _ => Q8) (fun a b c d e f g h => ⟨a, R8.rec (motive := fun _ => R8) (fun a b _ d e f g h => ⟨a, b, v, d, e, f, g, h⟩) b, c, d, e, f, g, h⟩) d⟩) s⟩,
  ⟨fun s => Slots.rec (motive := fun _ => SV) (fun _ _ _ _ d => Q8.rec (motive := fun _ => SV) (fun _ b _ _ _ _ _ _ => R8.rec (motive := fun _ => SV) (fun _ _ _ d _ _ _ _ => d) b) d) s, fun s v => Slots.rec (motive := fun _ => Slots) (fun n a b c d => ⟨n, a, b, c, Q8.rec (motive := fun _ => Q8) (fun a b c d e f g h => ⟨a, R8.rec (motive := fun _ => R8) (fun a b c _ e f g h => ⟨a, b, c, v, e, f, g, h⟩) b, c, d, e, f, g, h⟩) d⟩) s⟩,
  ⟨fun s => Slots.rec (motive := fun _ => SV) (fun _ _ _ _ d => Q8.rec (motive := fun _ => SV) (fun _ b _ _ _ _ _ _ => R8.rec (motive := fun _ => SV) (fun _ _ _ _ e _ _ _ => e) b) d) s, fun s v => Slots.rec (motive := fun _ => Slots) (fun n a b c d => ⟨n, a, b, c, Q8.rec (motive := fun _ => Q8) (fun a b c d e f g h => ⟨a, R8.rec (motive := fun _ => R8) (fun a b c d _ f g h => ⟨a, b, c, d, v, f, g, h⟩) b, c, d, e, f, g, h⟩) d⟩) s⟩,
  ⟨fun s => Slots.rec (motive := fun _ => SV) (fun _ _ _ _ d => Q8.rec (motive := fun _ => SV) (fun _ b _ _ _ _ _ _ => R8.rec (motive := fun _ => SV) (fun _ _ _ _ _ f _ _ => f) b) d) s, fun s v => Slots.rec (motive := fun _ => Slots) (fun n a b c d => ⟨n, a, b, c, Q8.rec (motive := fun _ => Q8) (fun a b c d e f g h => ⟨a, R8.rec (motive := fun _ => R8) (fun a b c d e _ g h => ⟨a, b, c, d, e, v, g, h⟩) b, c, d, e, f, g, h⟩) d⟩) s⟩,
  ⟨fun s => Slots.rec (motive := fun _ => SV) (fun _ _ _ _ d => Q8.rec (motive := fun _ => SV) (fun _ b _ _ _ _ _ _ => R8.rec (motive := fun _ => SV) (fun _ _ _ _ _ _ g _ => g) b) d) s, fun s v => Slots.rec (motive := fun _ => Slots) (fun n a b c d => ⟨n, a, b, c, Q8.rec (motive := fun _ => Q8) (fun a b c d e f g h => ⟨a, R8.rec (motive := fun _ => R8) (fun a b c d e f _ h => ⟨a, b, c, d, e, f, v, h⟩) b, c, d, e, f, g, h⟩) d⟩) s⟩,
  ⟨fun s => Slots.rec (motive := fun _ => SV) (fun _ _ _ _ d => Q8.rec (motive := fun _ => SV) (fun _ b _ _ _ _ _ _ => R8.rec (motive := fun _ => SV) (fun _ _ _ _ _ _ _ h => h) b) d) s, fun s v => Slots.rec (motive := fun _ => Slots) (fun n a b c d => ⟨n, a, b, c, Q8.rec (motive := fun _ => Q8) (fun a b c d e f g h => ⟨a, R8.rec (motive := fun _ => R8) (fun a b c d e f g _ => ⟨a, b, c, d, e, f, g, v⟩) b, c, d, e, f, g, h⟩) d⟩) s⟩,
  ⟨fun s => Slots.rec (motive := fun _ => SV) (fun _ _ _ _ d => Q8.rec (motive := fun _ => SV) (fun _ _ c _ _ _ _ _ => R8.rec (motive := fun _ => SV) (fun a _ _ _ _ _ _ _ => a) c) d) s, fun s v => Slots.rec (motive := fun _ => Slots) (fun n a b c d => ⟨n, a, b, c, Q8.rec (motive := fun _ => Q8) (fun a b c d e f g h => ⟨a, b, R8.rec (motive := fun _ => R8) (fun _ b c d e f g h => ⟨v, b, c, d, e, f, g, h⟩) c, d, e, f, g, h⟩) d⟩) s⟩,
  ⟨fun s => Slots.rec (motive := fun _ => SV) (fun _ _ _ _ d => Q8.rec (motive := fun _ => SV) (fun _ _ c _ _ _ _ _ => R8.rec (motive := fun _ => SV) (fun _ b _ _ _ _ _ _ => b) c) d) s, fun s v => Slots.rec (motive := fun _ => Slots) (fun n a b c d => ⟨n, a, b, c, Q8.rec (motive := fun _ => Q8) (fun a b c d e f g h => ⟨a, b, R8.rec (motive := fun _ => R8) (fun a _ c d e f g h => ⟨a, v, c, d, e, f, g, h⟩) c, d, e, f, g, h⟩) d⟩) s⟩,
  ⟨fun s => Slots.rec (motive := fun _ => SV) (fun _ _ _ _ d => Q8.rec (motive := fun _ => SV) (fun _ _ c _ _ _ _ _ => R8.rec (motive := fun _ => SV) (fun _ _ c _ _ _ _ _ => c) c) d) s, fun s v => Slots.rec (motive := fun _ => Slots) (fun n a b c d => ⟨n, a, b, c, Q8.rec (motive := fun _ => Q8) (fun a b c d e f g h => ⟨a, b, R8.rec (motive := fun _ => R8) (fun a b _ d e f g h => ⟨a, b, v, d, e, f, g, h⟩) c, d, e, f, g, h⟩) d⟩) s⟩,
  ⟨fun s => Slots.rec (motive := fun _ => SV) (fun _ _ _ _ d => Q8.rec (motive := fun _ => SV) (fun _ _ c _ _ _ _ _ => R8.rec (motive := fun _ => SV) (fun _ _ _ d _ _ _ _ => d) c) d) s, fun s v => Slots.rec (motive := fun _ => Slots) (fun n a b c d => ⟨n, a, b, c, Q8.rec (motive := fun _ => Q8) (fun a b c d e f g h => ⟨a, b, R8.rec (motive := fun _ => R8) (fun a b c _ e f g h => ⟨a, b, c, v, e, f, g, h⟩) c, d, e, f, g, h⟩) d⟩) s⟩,
  ⟨fun s => Slots.rec (motive := fun _ => SV) (fun _ _ _ _ d => Q8.rec (motive := fun _ => SV) (fun _ _ c _ _ _ _ _ => R8.rec (motive := fun _ => SV) (fun _ _ _ _ e _ _ _ => e) c) d) s, fun s v => Slots.rec (motive := fun _ => Slots) (fun n a b c d => ⟨n, a, b, c, Q8.rec (motive := fun _ => Q8) (fun a b c d e f g h => ⟨a, b, R8.rec (motive := fun _ => R8) (fun a b c d _ f g h => ⟨a, b, c, d, v, f, g, h⟩) c, d, e, f, g, h⟩) d⟩) s⟩,
  ⟨fun s => Slots.rec (motive := fun _ => SV) (fun _ _ _ _ d => Q8.rec (motive := fun _ => SV) (fun _ _ c _ _ _ _ _ => R8.rec (motive := fun _ => SV) (fun _ _ _ _ _ f _ _ => f) c) d) s, fun s v => Slots.rec (motive := fun _ => Slots) (fun n a b c d => ⟨n, a, b, c, Q8.rec (motive := fun _ => Q8) (fun a b c d e f g h => ⟨a, b, R8.rec (motive := fun _ => R8) (fun a b c d e _ g h => ⟨a, b, c, d, e, v, g, h⟩) c, d, e, f, g, h⟩) d⟩) s⟩,
  ⟨fun s => Slots.rec (motive := fun _ => SV) (fun _ _ _ _ d => Q8.rec (motive := fun _ => SV) (fun _ _ c _ _ _ _ _ => R8.rec (motive := fun _ => SV) (fun _ _ _ _ _ _ g _ => g) c) d) s, fun s v => Slots.rec (motive := fun _ => Slots) (fun n a b c d => ⟨n, a, b, c, Q8.rec (motive := fun _ => Q8) (fun a b c d e f g h => ⟨a, b, R8.rec (motive := fun _ => R8) (fun a b c d e f _ h => ⟨a, b, c, d, e, f, v, h⟩) c, d, e, f, g, h⟩) d⟩) s⟩,
  ⟨fun s => Slots.rec (motive := fun _ => SV) (fun _ _ _ _ d => Q8.rec (motive := fun _ => SV) (fun _ _ c _ _ _ _ _ => R8.rec (motive := fun _ => SV) (fun _ _ _ _ _ _ _ h => h) c) d) s, fun s v => Slots.rec (motive := fun _ => Slots) (fun n a b c d => ⟨n, a, b, c, Q8.rec (motive := fun _ => Q8) (fun a b c d e f g h => ⟨a, b, R8.rec (motive := fun _ => R8) (fun a b c d e f g _ => ⟨a, b, c, d, e, f, g, v⟩) c, d, e, f, g, h⟩) d⟩) s⟩,
  ⟨fun s => Slots.rec (motive := fun _ => SV) (fun _ _ _ _ d => Q8.rec (motive := fun _ => SV) (fun _ _ _ d _ _ _ _ => R8.rec (motive := fun _ => SV) (fun a _ _ _ _ _ _ _ => a) d) d) s, fun s v => Slots.rec (motive := fun _ => Slots) (fun n a b c d => ⟨n, a, b, c, Q8.rec (motive := fun _ => Q8) (fun a b c d e f g h => ⟨a, b, c, R8.rec (motive := fun _ => R8) (fun _ b c d e f g h => ⟨v, b, c, d, e, f, g, h⟩) d, e, f, g, h⟩) d⟩) s⟩,
  ⟨fun s => Slots.rec (motive := fun _ => SV) (fun _ _ _ _ d => Q8.rec (motive := fun _ => SV) (fun _ _ _ d _ _ _ _ => R8.rec (motive := fun _ => SV) (fun _ b _ _ _ _ _ _ => b) d) d) s, fun s v => Slots.rec (motive := fun _ => Slots) (fun n a b c d => ⟨n, a, b, c, Q8.rec (motive := fun _ => Q8) (fun a b c d e f g h => ⟨a, b, c, R8.rec (motive := fun _ => R8) (fun a _ c d e f g h => ⟨a, v, c, d, e, f, g, h⟩) d, e, f, g, h⟩) d⟩) s⟩,
  ⟨fun s => Slots.rec (motive := fun _ => SV) (fun _ _ _ _ d => Q8.rec (motive := fun _ => SV) (fun _ _ _ d _ _ _ _ => R8.rec (motive := fun _ => SV) (fun _ _ c _ _ _ _ _ => c) d) d) s, fun s v => Slots.rec (motive := fun _ => Slots) (fun n a b c d => ⟨n, a, b, c, Q8.rec (motive := fun _ => Q8) (fun a b c d e f g h => ⟨a, b, c, R8.rec (motive := fun _ => R8) (fun a b _ d e f g h => ⟨a, b, v, d, e, f, g, h⟩) d, e, f, g, h⟩) d⟩) s⟩,
  ⟨fun s => Slots.rec (motive := fun _ => SV) (fun _ _ _ _ d => Q8.rec (motive := fun _ => SV) (fun _ _ _ d _ _ _ _ => R8.rec (motive := fun _ => SV) (fun _ _ _ d _ _ _ _ => d) d) d) s, fun s v => Slots.rec (motive := fun _ => Slots) (fun n a b c d => ⟨n, a, b, c, Q8.rec (motive := fun _ => Q8) (fun a b c d e f g h => ⟨a, b, c, R8.rec (motive := fun _ => R8) (fun a b c _ e f g h => ⟨a, b, c, v, e, f, g, h⟩) d, e, f, g, h⟩) d⟩) s⟩,
  ⟨fun s => Slots.rec (motive := fun _ => SV) (fun _ _ _ _ d => Q8.rec (motive := fun _ => SV) (fun _ _ _ d _ _ _ _ => R8.rec (motive := fun _ => SV) (fun _ _ _ _ e _ _ _ => e) d) d) s, fun s v => Slots.rec (motive := fun _ => Slots) (fun n a b c d => ⟨n, a, b, c, Q8.rec (motive := fun _ => Q8) (fun a b c d e f g h => ⟨a, b, c, R8.rec (motive := fun _ => R8) (fun a b c d _ f g h => ⟨a, b, c, d, v, f, g, h⟩) d, e, f, g, h⟩) d⟩) s⟩,
  ⟨fun s => Slots.rec (motive := fun _ => SV) (fun _ _ _ _ d => Q8.rec (motive := fun _ => SV) (fun _ _ _ d _ _ _ _ => R8.rec (motive := fun _ => SV) (fun _ _ _ _ _ f _ _ => f) d) d) s, fun s v => Slots.rec (motive := fun _ => Slots) (fun n a b c d => ⟨n, a, b, c, Q8.rec (motive := fun _ => Q8) (fun a b c d e f g h => ⟨a, b, c, R8.rec (motive := fun _ => R8) (fun a b c d e _ g h => ⟨a, b, c, d, e, v, g, h⟩) d, e, f, g, h⟩) d⟩) s⟩,
  ⟨fun s => Slots.rec (motive := fun _ => SV) (fun _ _ _ _ d => Q8.rec (motive := fun _ => SV) (fun _ _ _ d _ _ _ _ => R8.rec (motive := fun _ => SV) (fun _ _ _ _ _ _ g _ => g) d) d) s, fun s v => Slots.rec (motive := fun _ => Slots) (fun n a b c d => ⟨n, a, b, c, Q8.rec (motive := fun _ => Q8) (fun a b c d e f g h => ⟨a, b, c, R8.rec (motive := fun _ => R8) (fun a b c d e f _ h => ⟨a, b, c, d, e, f, v, h⟩) d, e, f, g, h⟩) d⟩) s⟩,
  ⟨fun s => Slots.rec (motive := fun _ => SV) (fun _ _ _ _ d => Q8.rec (motive := fun _ => SV) (fun _ _ _ d _ _ _ _ => R8.rec (motive := fun _ => SV) (fun _ _ _ _ _ _ _ h => h) d) d) s, fun s v => Slots.rec (motive := fun _ => Slots) (fun n a b c d => ⟨n, a, b, c, Q8.rec (motive := fun _ => Q8) (fun a b c d e f g h => ⟨a, b, c, R8.rec (motive := fun _ => R8) (fun a b c d e f g _ => ⟨a, b, c, d, e, f, g, v⟩) d, e, f, g, h⟩) d⟩) s⟩,
  ⟨fun s => Slots.rec (motive := fun _ => SV) (fun _ _ _ _ d => Q8.rec (motive := fun _ => SV) (fun _ _ _ _ e _ _ _ => R8.rec (motive := fun _ => SV) (fun a _ _ _ _ _ _ _ => a) e) d) s, fun s v => Slots.rec (motive := fun _ => Slots) (fun n a b c d => ⟨n, a, b, c, Q8.rec (motive := fun _ => Q8) (fun a b c d e f g h => ⟨a, b, c, d, R8.rec (motive := fun _ => R8) (fun _ b c d e f g h => ⟨v, b, c, d, e, f, g, h⟩) e, f, g, h⟩) d⟩) s⟩,
  ⟨fun s => Slots.rec (motive := fun _ => SV) (fun _ _ _ _ d => Q8.rec (motive := fun _ => SV) (fun _ _ _ _ e _ _ _ => R8.rec (motive := fun _ => SV) (fun _ b _ _ _ _ _ _ => b) e) d) s, fun s v => Slots.rec (motive := fun _ => Slots) (fun n a b c d => ⟨n, a, b, c, Q8.rec (motive := fun _ => Q8) (fun a b c d e f g h => ⟨a, b, c, d, R8.rec (motive := fun _ => R8) (fun a _ c d e f g h => ⟨a, v, c, d, e, f, g, h⟩) e, f, g, h⟩) d⟩) s⟩,
  ⟨fun s => Slots.rec (motive := fun _ => SV) (fun _ _ _ _ d => Q8.rec (motive := fun _ => SV) (fun _ _ _ _ e _ _ _ => R8.rec (motive := fun _ => SV) (fun _ _ c _ _ _ _ _ => c) e) d) s, fun s v => Slots.rec (motive := fun _ => Slots) (fun n a b c d => ⟨n, a, b, c, Q8.rec (motive := fun _ => Q8) (fun a b c d e f g h => ⟨a, b, c, d, R8.rec (motive := fun _ => R8) (fun a b _ d e f g h => ⟨a, b, v, d, e, f, g, h⟩) e, f, g, h⟩) d⟩) s⟩,
  ⟨fun s => Slots.rec (motive := fun _ => SV) (fun _ _ _ _ d => Q8.rec (motive := fun _ => SV) (fun _ _ _ _ e _ _ _ => R8.rec (motive := fun _ => SV) (fun _ _ _ d _ _ _ _ => d) e) d) s, fun s v => Slots.rec (motive := fun _ => Slots) (fun n a b c d => ⟨n, a, b, c, Q8.rec (motive := fun _ => Q8) (fun a b c d e f g h => ⟨a, b, c, d, R8.rec (motive := fun _ => R8) (fun a b c _ e f g h => ⟨a, b, c, v, e, f, g, h⟩) e, f, g, h⟩) d⟩) s⟩,
  ⟨fun s => Slots.rec (motive := fun _ => SV) (fun _ _ _ _ d => Q8.rec (motive := fun _ => SV) (fun _ _ _ _ e _ _ _ => R8.rec (motive := fun _ => SV) (fun _ _ _ _ e _ _ _ => e) e) d) s, fun s v => Slots.rec (motive := fun _ => Slots) (fun n a b c d => ⟨n, a, b, c, Q8.rec (motive := fun _ => Q8) (fun a b c d e f g h => ⟨a, b, c, d, R8.rec (motive := fun _ => R8) (fun a b c d _ f g h => ⟨a, b, c, d, v, f, g, h⟩) e, f, g, h⟩) d⟩) s⟩,
  ⟨fun s => Slots.rec (motive := fun _ => SV) (fun _ _ _ _ d => Q8.rec (motive := fun _ => SV) (fun _ _ _ _ e _ _ _ => R8.rec (motive := fun _ => SV) (fun _ _ _ _ _ f _ _ => f) e) d) s, fun s v => Slots.rec (motive := fun _ => Slots) (fun n a b c d => ⟨n, a, b, c, Q8.rec (motive := fun _ => Q8) (fun a b c d e f g h => ⟨a, b, c, d, R8.rec (motive := fun _ => R8) (fun a b c d e _ g h => ⟨a, b, c, d, e, v, g, h⟩) e, f, g, h⟩) d⟩) s⟩,
  ⟨fun s => Slots.rec (motive := fun _ => SV) (fun _ _ _ _ d => Q8.rec (motive := fun _ => SV) (fun _ _ _ _ e _ _ _ => R8.rec (motive := fun _ => SV) (fun _ _ _ _ _ _ g _ => g) e) d) s, fun s v => Slots.rec (motive := fun _ => Slots) (fun n a b c d => ⟨n, a, b, c, Q8.rec (motive := fun _ => Q8) (fun a b c d e f g h => ⟨a, b, c, d, R8.rec (motive := fun _ => R8) (fun a b c d e f _ h => ⟨a, b, c, d, e, f, v, h⟩) e, f, g, h⟩) d⟩) s⟩,
  ⟨fun s => Slots.rec (motive := fun _ => SV) (fun _ _ _ _ d => Q8.rec (motive := fun _ => SV) (fun _ _ _ _ e _ _ _ => R8.rec (motive := fun _ => SV) (fun _ _ _ _ _ _ _ h => h) e) d) s, fun s v => Slots.rec (motive := fun _ => Slots) (fun n a b c d => ⟨n, a, b, c, Q8.rec (motive := fun _ => Q8) (fun a b c d e f g h => ⟨a, b, c, d, R8.rec (motive := fun _ => R8) (fun a b c d e f g _ => ⟨a, b, c, d, e, f, g, v⟩) e, f, g, h⟩) d⟩) s⟩,
  ⟨fun s => Slots.rec (motive := fun _ => SV) (fun _ _ _ _ d => Q8.rec (motive := fun _ => SV) (fun _ _ _ _ _ f _ _ => R8.rec (motive := fun _ => SV) (fun a _ _ _ _ _ _ _ => a) f) d) s, fun s v => Slots.rec (motive := fun _ => Slots) (fun n a b c d => ⟨n, a, b, c, Q8.rec (motive := fun _ => Q8) (fun a b c d e f g h => ⟨a, b, c, d, e, R8.rec (motive := fun _ => R8) (fun _ b c d e f g h => ⟨v, b, c, d, e, f, g, h⟩) f, g, h⟩) d⟩) s⟩,
  ⟨fun s => Slots.rec (motive := fun _ => SV) (fun _ _ _ _ d => Q8.rec (motive := fun _ => SV) (fun _ _ _ _ _ f _ _ => R8.rec (motive := fun _ => SV) (fun _ b _ _ _ _ _ _ => b) f) d) s, fun s v => Slots.rec (motive := fun _ => Slots) (fun n a b c d => ⟨n, a, b, c, Q8.rec (motive := fun _ => Q8) (fun a b c d e f g h => ⟨a, b, c, d, e, R8.rec (motive := fun _ => R8) (fun a _ c d e f g h => ⟨a, v, c, d, e, f, g, h⟩) f, g, h⟩) d⟩) s⟩,
  ⟨fun s => Slots.rec (motive := fun _ => SV) (fun _ _ _ _ d => Q8.rec (motive := fun _ => SV) (fun _ _ _ _ _ f _ _ => R8.rec (motive := fun _ => SV) (fun _ _ c _ _ _ _ _ => c) f) d) s, fun s v => Slots.rec (motive := fun _ => Slots) (fun n a b c d => ⟨n, a, b, c, Q8.rec (motive := fun _ => Q8) (fun a b c d e f g h => ⟨a, b, c, d, e, R8.rec (motive := fun _ => R8) (fun a b _ d e f g h => ⟨a, b, v, d, e, f, g, h⟩) f, g, h⟩) d⟩) s⟩,
  ⟨fun s => Slots.rec (motive := fun _ => SV) (fun _ _ _ _ d => Q8.rec (motive := fun _ => SV) (fun _ _ _ _ _ f _ _ => R8.rec (motive := fun _ => SV) (fun _ _ _ d _ _ _ _ => d) f) d) s, fun s v => Slots.rec (motive := fun _ => Slots) (fun n a b c d => ⟨n, a, b, c, Q8.rec (motive := fun _ => Q8) (fun a b c d e f g h => ⟨a, b, c, d, e, R8.rec (motive := fun _ => R8) (fun a b c _ e f g h => ⟨a, b, c, v, e, f, g, h⟩) f, g, h⟩) d⟩) s⟩,
  ⟨fun s => Slots.rec (motive := fun _ => SV) (fun _ _ _ _ d => Q8.rec (motive := fun _ => SV) (fun _ _ _ _ _ f _ _ => R8.rec (motive := fun _ => SV) (fun _ _ _ _ e _ _ _ => e) f) d) s, fun s v => Slots.rec (motive := fun _ => Slots) (fun n a b c d => ⟨n, a, b, c, Q8.rec (motive := fun _ => Q8) (fun a b c d e f g h => ⟨a, b, c, d, e, R8.rec (motive := fun _ => R8) (fun a b c d _ f g h => ⟨a, b, c, d, v, f, g, h⟩) f, g, h⟩) d⟩) s⟩,
  ⟨fun s => Slots.rec (motive := fun _ => SV) (fun _ _ _ _ d => Q8.rec (motive := fun _ => SV) (fun _ _ _ _ _ f _ _ => R8.rec (motive := fun _ => SV) (fun _ _ _ _ _ f _ _ => f) f) d) s, fun s v => Slots.rec (motive := fun _ => Slots) (fun n a b c d => ⟨n, a, b, c, Q8.rec (motive := fun _ => Q8) (fun a b c d e f g h => ⟨a, b, c, d, e, R8.rec (motive := fun _ => R8) (fun a b c d e _ g h => ⟨a, b, c, d, e, v, g, h⟩) f, g, h⟩) d⟩) s⟩,
  ⟨fun s => Slots.rec (motive := fun _ => SV) (fun _ _ _ _ d => Q8.rec (motive := fun _ => SV) (fun _ _ _ _ _ f _ _ => R8.rec (motive := fun _ => SV) (fun _ _ _ _ _ _ g _ => g) f) d) s, fun s v => Slots.rec (motive := fun _ => Slots) (fun n a b c d => ⟨n, a, b, c, Q8.rec (motive := fun _ => Q8) (fun a b c d e f g h => ⟨a, b, c, d, e, R8.rec (motive := fun _ => R8) (fun a b c d e f _ h => ⟨a, b, c, d, e, f, v, h⟩) f, g, h⟩) d⟩) s⟩,
  ⟨fun s => Slots.rec (motive := fun _ => SV) (fun _ _ _ _ d => Q8.rec (motive := fun _ => SV) (fun _ _ _ _ _ f _ _ => R8.rec (motive := fun _ => SV) (fun _ _ _ _ _ _ _ h => h) f) d) s, fun s v => Slots.rec (motive := fun _ => Slots) (fun n a b c d => ⟨n, a, b, c, Q8.rec (motive := fun _ => Q8) (fun a b c d e f g h => ⟨a, b, c, d, e, R8.rec (motive := fun _ => R8) (fun a b c d e f g _ => ⟨a, b, c, d, e, f, g, v⟩) f, g, h⟩) d⟩) s⟩,
  ⟨fun s => Slots.rec (motive := fun _ => SV) (fun _ _ _ _ d => Q8.rec (motive := fun _ => SV) (fun _ _ _ _ _ _ g _ => R8.rec (motive := fun _ => SV) (fun a _ _ _ _ _ _ _ => a) g) d) s, fun s v => Slots.rec (motive := fun _ => Slots) (fun n a b c d => ⟨n, a, b, c, Q8.rec (motive := fun _ => Q8) (fun a b c d e f g h => ⟨a, b, c, d, e, f, R8.rec (motive := fun _ => R8) (fun _ b c d e f g h => ⟨v, b, c, d, e, f, g, h⟩) g, h⟩) d⟩) s⟩,
  ⟨fun s => Slots.rec (motive := fun _ => SV) (fun _ _ _ _ d => Q8.rec (motive := fun _ => SV) (fun _ _ _ _ _ _ g _ => R8.rec (motive := fun _ => SV) (fun _ b _ _ _ _ _ _ => b) g) d) s, fun s v => Slots.rec (motive := fun _ => Slots) (fun n a b c d => ⟨n, a, b, c, Q8.rec (motive := fun _ => Q8) (fun a b c d e f g h => ⟨a, b, c, d, e, f, R8.rec (motive := fun _ => R8) (fun a _ c d e f g h => ⟨a, v, c, d, e, f, g, h⟩) g, h⟩) d⟩) s⟩,
  ⟨fun s => Slots.rec (motive := fun _ => SV) (fun _ _ _ _ d => Q8.rec (motive := fun _ => SV) (fun _ _ _ _ _ _ g _ => R8.rec (motive := fun _ => SV) (fun _ _ c _ _ _ _ _ => c) g) d) s, fun s v => Slots.rec (motive := fun _ => Slots) (fun n a b c d => ⟨n, a, b, c, Q8.rec (motive := fun _ => Q8) (fun a b c d e f g h => ⟨a, b, c, d, e, f, R8.rec (motive := fun _ => R8) (fun a b _ d e f g h => ⟨a, b, v, d, e, f, g, h⟩) g, h⟩) d⟩) s⟩,
  ⟨fun s => Slots.rec (motive := fun _ => SV) (fun _ _ _ _ d => Q8.rec (motive := fun _ => SV) (fun _ _ _ _ _ _ g _ => R8.rec (motive := fun _ => SV) (fun _ _ _ d _ _ _ _ => d) g) d) s, fun s v => Slots.rec (motive := fun _ => Slots) (fun n a b c d => ⟨n, a, b, c, Q8.rec (motive := fun _ => Q8) (fun a b c d e f g h => ⟨a, b, c, d, e, f, R8.rec (motive := fun _ => R8) (fun a b c _ e f g h => ⟨a, b, c, v, e, f, g, h⟩) g, h⟩) d⟩) s⟩,
  ⟨fun s => Slots.rec (motive := fun _ => SV) (fun _ _ _ _ d => Q8.rec (motive := fun _ => SV) (fun _ _ _ _ _ _ g _ => R8.rec (motive := fun _ => SV) (fun _ _ _ _ e _ _ _ => e) g) d) s, fun s v => Slots.rec (motive := fun _ => Slots) (fun n a b c d => ⟨n, a, b, c, Q8.rec (motive := fun _ => Q8) (fun a b c d e f g h => ⟨a, b, c, d, e, f, R8.rec (motive := fun _ => R8) (fun a b c d _ f g h => ⟨a, b, c, d, v, f, g, h⟩) g, h⟩) d⟩) s⟩,
  ⟨fun s => Slots.rec (motive := fun _ => SV) (fun _ _ _ _ d => Q8.rec (motive := fun _ => SV) (fun _ _ _ _ _ _ g _ => R8.rec (motive := fun _ => SV) (fun _ _ _ _ _ f _ _ => f) g) d) s, fun s v => Slots.rec (motive := fun _ => Slots) (fun n a b c d => ⟨n, a, b, c, Q8.rec (motive := fun _ => Q8) (fun a b c d e f g h => ⟨a, b, c, d, e, f, R8.rec (motive := fun _ => R8) (fun a b c d e _ g h => ⟨a, b, c, d, e, v, g, h⟩) g, h⟩) d⟩) s⟩,
  ⟨fun s => Slots.rec (motive := fun _ => SV) (fun _ _ _ _ d => Q8.rec (motive := fun _ => SV) (fun _ _ _ _ _ _ g _ => R8.rec (motive := fun _ => SV) (fun _ _ _ _ _ _ g _ => g) g) d) s, fun s v => Slots.rec (motive := fun _ => Slots) (fun n a b c d => ⟨n, a, b, c, Q8.rec (motive := fun _ => Q8) (fun a b c d e f g h => ⟨a, b, c, d, e, f, R8.rec (motive := fun _ => R8) (fun a b c d e f _ h => ⟨a, b, c, d, e, f, v, h⟩) g, h⟩) d⟩) s⟩,
  ⟨fun s => Slots.rec (motive := fun _ => SV) (fun _ _ _ _ d => Q8.rec (motive := fun _ => SV) (fun _ _ _ _ _ _ g _ => R8.rec (motive := fun _ => SV) (fun _ _ _ _ _ _ _ h => h) g) d) s, fun s v => Slots.rec (motive := fun _ => Slots) (fun n a b c d => ⟨n, a, b, c, Q8.rec (motive := fun _ => Q8) (fun a b c d e f g h => ⟨a, b, c, d, e, f, R8.rec (motive := fun _ => R8) (fun a b c d e f g _ => ⟨a, b, c, d, e, f, g, v⟩) g, h⟩) d⟩) s⟩,
  ⟨fun s => Slots.rec (motive := fun _ => SV) (fun _ _ _ _ d => Q8.rec (motive := fun _ => SV) (fun _ _ _ _ _ _ _ h => R8.rec (motive := fun _ => SV) (fun a _ _ _ _ _ _ _ => a) h) d) s, fun s v => Slots.rec (motive := fun _ => Slots) (fun n a b c d => ⟨n, a, b, c, Q8.rec (motive := fun _ => Q8) (fun a b c d e f g h => ⟨a, b, c, d, e, f, g, R8.rec (motive := fun _ => R8) (fun _ b c d e f g h => ⟨v, b, c, d, e, f, g, h⟩) h⟩) d⟩) s⟩,
  ⟨fun s => Slots.rec (motive := fun _ => SV) (fun _ _ _ _ d => Q8.rec (motive := fun _ => SV) (fun _ _ _ _ _ _ _ h => R8.rec (motive := fun _ => SV) (fun _ b _ _ _ _ _ _ => b) h) d) s, fun s v => Slots.rec (motive := fun _ => Slots) (fun n a b c d => ⟨n, a, b, c, Q8.rec (motive := fun _ => Q8) (fun a b c d e f g h => ⟨a, b, c, d, e, f, g, R8.rec (motive := fun _ => R8) (fun a _ c d e f g h => ⟨a, v, c, d, e, f, g, h⟩) h⟩) d⟩) s⟩,
  ⟨fun s => Slots.rec (motive := fun _ => SV) (fun _ _ _ _ d => Q8.rec (motive := fun _ => SV) (fun _ _ _ _ _ _ _ h => R8.rec (motive := fun _ => SV) (fun _ _ c _ _ _ _ _ => c) h) d) s, fun s v => Slots.rec (motive := fun _ => Slots) (fun n a b c d => ⟨n, a, b, c, Q8.rec (motive := fun _ => Q8) (fun a b c d e f g h => ⟨a, b, c, d, e, f, g, R8.rec (motive := fun _ => R8) (fun a b _ d e f g h => ⟨a, b, v, d, e, f, g, h⟩) h⟩) d⟩) s⟩,
  ⟨fun s => Slots.rec (motive := fun _ => SV) (fun _ _ _ _ d => Q8.rec (motive := fun _ => SV) (fun _ _ _ _ _ _ _ h => R8.rec (motive := fun _ => SV) (fun _ _ _ d _ _ _ _ => d) h) d) s, fun s v => Slots.rec (motive := fun _ => Slots) (fun n a b c d => ⟨n, a, b, c, Q8.rec (motive := fun _ => Q8) (fun a b c d e f g h => ⟨a, b, c, d, e, f, g, R8.rec (motive := fun _ => R8) (fun a b c _ e f g h => ⟨a, b, c, v, e, f, g, h⟩) h⟩) d⟩) s⟩,
  ⟨fun s => Slots.rec (motive := fun _ => SV) (fun _ _ _ _ d => Q8.rec (motive := fun _ => SV) (fun _ _ _ _ _ _ _ h => R8.rec (motive := fun _ => SV) (fun _ _ _ _ e _ _ _ => e) h) d) s, fun s v => Slots.rec (motive := fun _ => Slots) (fun n a b c d => ⟨n, a, b, c, Q8.rec (motive := fun _ => Q8) (fun a b c d e f g h => ⟨a, b, c, d, e, f, g, R8.rec (motive := fun _ => R8) (fun a b c d _ f g h => ⟨a, b, c, d, v, f, g, h⟩) h⟩) d⟩) s⟩,
  ⟨fun s => Slots.rec (motive := fun _ => SV) (fun _ _ _ _ d => Q8.rec (motive := fun _ => SV) (fun _ _ _ _ _ _ _ h => R8.rec (motive := fun _ => SV) (fun _ _ _ _ _ f _ _ => f) h) d) s, fun s v => Slots.rec (motive := fun _ => Slots) (fun n a b c d => ⟨n, a, b, c, Q8.rec (motive := fun _ => Q8) (fun a b c d e f g h => ⟨a, b, c, d, e, f, g, R8.rec (motive := fun _ => R8) (fun a b c d e _ g h => ⟨a, b, c, d, e, v, g, h⟩) h⟩) d⟩) s⟩,
  ⟨fun s => Slots.rec (motive := fun _ => SV) (fun _ _ _ _ d => Q8.rec (motive := fun _ => SV) (fun _ _ _ _ _ _ _ h => R8.rec (motive := fun _ => SV) (fun _ _ _ _ _ _ g _ => g) h) d) s, fun s v => Slots.rec (motive := fun _ => Slots) (fun n a b c d => ⟨n, a, b, c, Q8.rec (motive := fun _ => Q8) (fun a b c d e f g h => ⟨a, b, c, d, e, f, g, R8.rec (motive := fun _ => R8) (fun a b c d e f _ h => ⟨a, b, c, d, e, f, v, h⟩) h⟩) d⟩) s⟩,
  ⟨fun s => Slots.rec (motive := fun _ => SV) (fun _ _ _ _ d => Q8.rec (motive := fun _ => SV) (fun _ _ _ _ _ _ _ h => R8.rec (motive := fun _ => SV) (fun _ _ _ _ _ _ _ h => h) h) d) s, fun s v => Slots.rec (motive := fun _ => Slots) (fun n a b c d => ⟨n, a, b, c, Q8.rec (motive := fun _ => Q8) (fun a b c d e f g h => ⟨a, b, c, d, e, f, g, R8.rec (motive := fun _ => R8) (fun a b c d e f g _ => ⟨a, b, c, d, e, f, g, v⟩) h⟩) d⟩) s⟩]
/-- the n-th, or what stands in its place -/
noncomputable def nthA (l : List Acc) : Nat → Acc :=
  List.rec (motive := fun _ => Nat → Acc) (fun _ => acc0) (fun x _ ih n => Nat.rec (motive := fun _ => Acc) x (fun m _ => ih m) n) l
noncomputable def accR (q : Nat) : List Acc := match q with
  | 0 => accs0
  | 1 => accs1
  | 2 => accs2
  | 3 => accs3
  | _ => []
noncomputable def acc (j : Nat) : Acc := nthA (accR (j / 64)) (j % 64)
theorem nthA_eq : ∀ (l : List Acc) (n : Nat), nthA l n = l.getD n acc0
  | [], _ => rfl
  | _ :: _, 0 => rfl
  | _ :: l, n + 1 => nthA_eq l n
theorem Acc.ext' {x y : Acc} (h1 : ∀ s, x.g s = y.g s) (h2 : ∀ s v, x.s s v = y.s s v) : x = y := by
  cases x; cases y
  simp only [Acc.mk.injEq]
  exact ⟨funext h1, funext fun s => funext (h2 s)⟩
theorem accs0_eq : accs0 = (List.range 64).map (fun k => accG (0 + k)) := rfl
theorem accs1_eq : accs1 = (List.range 64).map (fun k => accG (64 + k)) := rfl
theorem accs2_eq : accs2 = (List.range 64).map (fun k => accG (128 + k)) := rfl
theorem accs3_eq : accs3 = (List.range 64).map (fun k => accG (192 + k)) := rfl
theorem acc_eq (j : Nat) : acc j = accG j := by
  unfold acc
  rw [nthA_eq]
  by_cases h : j < 256
  · have hm : j % 64 < 64 := Nat.mod_lt _ (by omega)
    have key : ∀ (l : List Acc) (b : Nat), l = (List.range 64).map (fun k => accG (b + k)) → b + j % 64 = j → l.getD (j % 64) acc0 = accG j := by
      intro l b hl hb
      rw [hl, List.getD_eq_getElem?_getD, List.getElem?_map, List.getElem?_range hm]
      simp only [Option.map_some, Option.getD_some, hb]
    have hq : j / 64 = 0 ∨ j / 64 = 1 ∨ j / 64 = 2 ∨ j / 64 = 3 := by omega
    rcases hq with h | h | h | h
    · rw [h]; exact key accs0 0 accs0_eq (by omega)
    · rw [h]; exact key accs1 64 accs1_eq (by omega)
    · rw [h]; exact key accs2 128 accs2_eq (by omega)
    · rw [h]; exact key accs3 192 accs3_eq (by omega)
  · have h8 : 4 ≤ j / 64 := by omega
    have hr : accR (j / 64) = [] := by
      generalize j / 64 = q at h8
      match q, h8 with
      | q + 4, _ => rfl
    rw [hr]
    refine Acc.ext' (fun s => ?_) (fun s v => ?_)
    · show SV.junk = R8.get (j % 8) (Q8.get (j / 8 % 8) (Slots.get (j / 64) s))
      rw [Slots.get_out _ _ h8]
      have h1 : Q8.get (j / 8 % 8) (.all (.all .junk)) = .all .junk := by
        have : j / 8 % 8 < 8 := Nat.mod_lt _ (by omega)
        generalize j / 8 % 8 = q at this
        match q, this with
        | 0, _ | 1, _ | 2, _ | 3, _ | 4, _ | 5, _ | 6, _ | 7, _ => rfl
      rw [h1]
      have : j % 8 < 8 := Nat.mod_lt _ (by omega)
      generalize j % 8 = q at this
      match q, this with
      | 0, _ | 1, _ | 2, _ | 3, _ | 4, _ | 5, _ | 6, _ | 7, _ => rfl
    · show s = Slots.set (j / 64) s _
      generalize j / 64 = q at h8
      match q, h8 with
      | q + 4, _ => rfl

noncomputable def sget (s : Slots) (j : Nat) : SV := (acc j).g s
/-- whatever the slot -/
noncomputable def swr (s : Slots) (j : Nat) (v : SV) : Slots := (acc j).s s v
noncomputable def sset (s : Slots) (j : Nat) (v : SV) : Slots := Slots.rec (motive := fun _ => Slots) (fun n _ _ _ _ => Bool.rec (motive := fun _ => Slots) s (swr s j v) (Nat.blt j n)) s
theorem swr_n (s : Slots) (j : Nat) (v : SV) : (swr s j v).n = s.n := by
  unfold swr; rw [acc_eq]; exact Slots.set_n _ _ _
theorem sget_wr (s : Slots) (j : Nat) (v : SV) : sget (swr s j v) j = v ∨ 256 ≤ j := by
  unfold sget swr
  rw [acc_eq]
  simp only [accG]
  rcases Slots.get_set (j / 64) s (Q8.set (j / 8 % 8) (Slots.get (j / 64) s) (R8.set (j % 8) (Q8.get (j / 8 % 8) (Slots.get (j / 64) s)) v)) with h | h
  · left
    rw [h]
    rcases Q8.get_set (j / 8 % 8) (Slots.get (j / 64) s) (R8.set (j % 8) (Q8.get (j / 8 % 8) (Slots.get (j / 64) s)) v) with h | h
    · rw [h]
      rcases R8.get_set (j % 8) (Q8.get (j / 8 % 8) (Slots.get (j / 64) s)) v with h | h
      · exact h
      · omega
    · omega
  · right; omega
theorem sget_out (s : Slots) (j : Nat) (h : 256 ≤ j) : sget s j = .junk := by
  unfold sget acc
  have : accR (j / 64) = [] := by
    have h8 : 4 ≤ j / 64 := by omega
    generalize j / 64 = q at h8
    match q, h8 with
    | q + 4, _ => rfl
  rw [this]; rfl
theorem sget_wr_ne (s : Slots) (i j : Nat) (v : SV) (h : j ≠ i) : sget (swr s i v) j = sget s j := by
  unfold sget swr
  rw [acc_eq, acc_eq]
  simp only [accG]
  by_cases h1 : j / 64 = i / 64
  · rw [h1]
    rcases Slots.get_set (i / 64) s (Q8.set (i / 8 % 8) (Slots.get (i / 64) s) (R8.set (i % 8) (Q8.get (i / 8 % 8) (Slots.get (i / 64) s)) v)) with h2 | h2
    · rw [h2]
      by_cases h3 : j / 8 % 8 = i / 8 % 8
      · rw [h3]
        rcases Q8.get_set (i / 8 % 8) (Slots.get (i / 64) s) (R8.set (i % 8) (Q8.get (i / 8 % 8) (Slots.get (i / 64) s)) v) with h4 | h4
        · rw [h4, R8.get_set_ne _ _ _ _ (by omega)]
        · omega
      · rw [Q8.get_set_ne _ _ _ _ h3]
    · rw [Slots.get_out _ _ h2, Slots.get_out _ _ h2]
  · rw [Slots.get_set_ne _ _ _ _ h1]
theorem sset_eq (s : Slots) (j : Nat) (v : SV) : sset s j v = if j < s.n then swr s j v else s := by
  have e : sset s j v = Bool.rec (motive := fun _ => Slots) s (swr s j v) (Nat.blt j s.n) := rfl
  rw [e]
  by_cases h : j < s.n
  · have : Nat.blt j s.n = true := by simpa [Nat.blt_eq] using h
    rw [this, if_pos h]
  · have : Nat.blt j s.n = false := Bool.eq_false_iff.2 fun e => h (by simpa [Nat.blt_eq] using e)
    rw [this, if_neg h]
theorem sset_n (s : Slots) (j : Nat) (v : SV) : (sset s j v).n = s.n := by
  rw [sset_eq]; split
  · exact swr_n _ _ _
  · rfl
theorem sget_set_ne (s : Slots) (i j : Nat) (v : SV) (h : j ≠ i) : sget (sset s i v) j = sget s j := by
  rw [sset_eq]; split
  · exact sget_wr_ne _ _ _ _ h
  · rfl

/-- slots stand for a frame's values -/
def RelS (ρ : Ren) (s : Slots) (vs : List Value) : Prop := s.n = vs.length ∧ ∀ j, (sget s j).Rel ρ (vs.getD j undef)
theorem RelS.get {ρ : Ren} {s : Slots} {vs : List Value} (h : RelS ρ s vs) (j : Nat) : (sget s j).Rel ρ (vs.getD j undef) := h.2 j
theorem RelS.mono {ρ ρ' : Ren} {s : Slots} {vs : List Value} (hρ : ρ.le ρ') (h : RelS ρ s vs) : RelS ρ' s vs := ⟨h.1, fun j => SV.Rel.mono hρ _ _ (h.2 j)⟩
theorem RelS.set {ρ : Ren} {s : Slots} {vs : List Value} (h : RelS ρ s vs) (i : Nat) {x : SV} {v : Value} (hx : x.Rel ρ v) : RelS ρ (sset s i x) (vs.set i v) := by
  refine ⟨by rw [sset_n, List.length_set]; exact h.1, fun j => ?_⟩
  by_cases hj : j = i
  · subst hj
    rw [sset_eq]
    split
    next hlt =>
      rw [h.1] at hlt
      rw [List.getD_eq_getElem?_getD, List.getElem?_set_self hlt]
      rcases sget_wr s j x with e | e
      · rw [e]; exact hx
      · rw [sget_out _ _ e]; simp only [SV.Rel]
    next hlt =>
      rw [h.1] at hlt
      rw [List.set_eq_of_length_le (by omega)]
      exact h.2 j
  · rw [sget_set_ne _ _ _ _ hj, List.getD_eq_getElem?_getD, List.getElem?_set_ne (fun e => hj e.symm), ← List.getD_eq_getElem?_getD]
    exact h.2 j
theorem RelS.reset {ρ : Ren} {s : Slots} {vs : List Value} (h : RelS ρ s vs) (i : Nat) {x : SV} (hx : x.Rel ρ (vs.getD i undef)) : RelS ρ (sset s i x) vs := by
  refine ⟨by rw [sset_n]; exact h.1, fun j => ?_⟩
  by_cases hj : j = i
  · subst hj
    rw [sset_eq]
    split
    · rcases sget_wr s j x with e | e
      · rw [e]; exact hx
      · rw [sget_out _ _ e]; simp only [SV.Rel]
    · exact h.2 j
  · rw [sget_set_ne _ _ _ _ hj]; exact h.2 j
/-- whatever it was -/
theorem RelS.wipe {ρ : Ren} {s : Slots} {vs : List Value} (h : RelS ρ s vs) (i : Nat) : RelS ρ (swr s i .junk) vs := by
  refine ⟨by rw [swr_n]; exact h.1, fun j => ?_⟩
  by_cases hj : j = i
  · subst hj
    rcases sget_wr s j .junk with e | e
    · rw [e]; simp only [SV.Rel]
    · rw [sget_out _ _ e]; simp only [SV.Rel]
  · rw [sget_wr_ne _ _ _ _ hj]; exact h.2 j

/-- a frame at first -/
def blank (n : Nat) : Slots := .all n (.all (.all .none_))
theorem sget_blank (n j : Nat) : sget (blank n) j = .none_ ∨ sget (blank n) j = .junk := by
  by_cases h : 256 ≤ j
  · exact .inr (sget_out _ _ h)
  · left
    unfold sget
    rw [acc_eq]
    have h1 : j / 64 < 4 := by omega
    have h2 : j / 8 % 8 < 8 := Nat.mod_lt _ (by omega)
    have h3 : j % 8 < 8 := Nat.mod_lt _ (by omega)
    have e1 : Slots.get (j / 64) (blank n) = .all (.all .none_) := by
      generalize j / 64 = q at h1
      match q, h1 with
      | 0, _ | 1, _ | 2, _ | 3, _ => rfl
    have e2 : Q8.get (j / 8 % 8) (.all (.all .none_)) = .all .none_ := by
      generalize j / 8 % 8 = q at h2
      match q, h2 with
      | 0, _ | 1, _ | 2, _ | 3, _ | 4, _ | 5, _ | 6, _ | 7, _ => rfl
    have e3 : R8.get (j % 8) (.all .none_) = .none_ := by
      generalize j % 8 = q at h3
      match q, h3 with
      | 0, _ | 1, _ | 2, _ | 3, _ | 4, _ | 5, _ | 6, _ | 7, _ => rfl
    simp only [accG]
    rw [e1, e2, e3]
noncomputable def setsS : Nat → List SV → Slots → Slots
  | _, [], s => s
  | i, x :: l, s => setsS (i + 1) l (sset s i x)
theorem setsS_rel {ρ : Ren} : ∀ (l : List SV) (us vs : List Value) (i : Nat) (s : Slots), RelL ρ l us → RelS ρ s vs → i + us.length ≤ vs.length → RelS ρ (setsS i l s) (vs.take i ++ us ++ vs.drop (i + us.length))
  | [], us, vs, i, s, h, hs, _ => by
    simp only [RelL] at h
    subst h
    simpa [setsS] using hs
  | x :: l, us, vs, i, s, h, hs, hle => by
    simp only [RelL] at h
    obtain ⟨v, r, rfl, h1, h2⟩ := h
    simp only [List.length_cons] at hle
    have := setsS_rel l r (vs.set i v) (i + 1) (sset s i x) h2 (hs.set i h1) (by rw [List.length_set]; omega)
    simp only [setsS]
    have e : (vs.set i v).take (i + 1) ++ r ++ (vs.set i v).drop (i + 1 + r.length) = vs.take i ++ (v :: r) ++ vs.drop (i + (r.length + 1)) := by
      have e1 : (vs.set i v).take (i + 1) = vs.take i ++ [v] := by
        rw [List.take_set, List.set_eq_take_append_cons_drop]
        rw [if_pos (by rw [List.length_take]; omega)]
        simp only [List.take_take, Nat.min_eq_left (Nat.le_succ i)]
        congr 1
        simp
      have e2 : (vs.set i v).drop (i + 1 + r.length) = vs.drop (i + (r.length + 1)) := by
        rw [List.drop_set, if_pos (by omega)]
        congr 1
        omega
      rw [e1, e2]
      simp
    rw [e] at this
    exact this
theorem setsS_blank {ρ : Ren} {l : List SV} {us : List Value} (h : RelL ρ l us) (m : Nat) : RelS ρ (setsS 0 l (blank (l.length + m))) (us ++ List.replicate m undef) := by
  have hl := h.length
  have h0 : RelS ρ (blank (l.length + m)) (List.replicate (us.length + m) undef) := by
    refine ⟨by rw [hl, List.length_replicate]; rfl, fun j => ?_⟩
    have e : (List.replicate (us.length + m) undef).getD j undef = undef := by
      rw [List.getD_eq_getElem?_getD, List.getElem?_replicate]
      split <;> rfl
    rw [e]
    rcases sget_blank (l.length + m) j with q | q <;> rw [q] <;> simp only [SV.Rel]
  have := setsS_rel l us _ 0 _ h h0 (by rw [List.length_replicate]; omega)
  simpa using this
end SX
end Go.Proofs.YtnjaaagiindclaaGreatDoor
