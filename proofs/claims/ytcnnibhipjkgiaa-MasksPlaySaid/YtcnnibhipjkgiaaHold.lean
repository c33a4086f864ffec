/-
  Forms in memory, and what they answer.
-/
import Derived.Test.YtcnnibhipjkgiaaForm
import Derived.Test.YtcnnibhipjkgiaaSearch
import Derived.Test.YtcnnibhipjkgiaaRow
import Derived.BigQuiet
import Derived.Deep.QuietTactic
import Derived.BigRegion
import Derived.Deep.CutBlock
import Derived.Deep.DeepCutAuto
import Derived.Deep.RegionHeld3
namespace Go.Proofs.Ytcnnibhipjkgiaa
open Go.RowKit Go.Deep

theorem cell_through {S : Nat → Prop} {w w' : World} {b i : Nat} {v : Value} (hf : Fr S w w') (h : w.cell? ⟨b, i, none⟩ = some v) (hs : ¬ S b) : w'.cell? ⟨b, i, none⟩ = some v := by
  have hlt := World.block_lt_of_cell? _ _ h
  rw [World.cell?_of_block (w := w) (hf.same b hlt hs)]; exact h

/-- a slice that reads as a row, in blocks that F names -/
def RdF (F : Nat → Prop) (w : World) (sz : Nat) (v : Value) (n : Nat) (xs : List Value) : Prop := Rd w sz v n xs ∧ ∀ a n' c, v = .slice (some a) n' c → F a.block

theorem RdF.fr {F S : Nat → Prop} {w w' : World} {sz n : Nat} {v : Value} {xs : List Value} (h : RdF F w sz v n xs) (hf : Fr S w w') (hS : ∀ b, F b → ¬ S b) : RdF F w' sz v n xs :=
  ⟨h.1.fr hf (fun a ⟨c, hc⟩ => hS _ (h.2 a n c hc)), h.2⟩
theorem RdF.mono {F G : Nat → Prop} {w : World} {sz n : Nat} {v : Value} {xs : List Value} (h : RdF F w sz v n xs) (hG : ∀ b, F b → G b) : RdF G w sz v n xs := ⟨h.1, fun a n' c hv => hG _ (h.2 a n' c hv)⟩

/-- how many stand ahead of each word -/
def aheads (bs : List Bool) : List Value := (List.range (bs.length + 1)).map (fun i => .int .u64 (cntTo (bit bs) i : Nat))

theorem aheads_get {bs : List Bool} {i : Nat} (h : i ≤ bs.length) : (aheads bs)[i]? = some (.int .u64 (cntTo (bit bs) i : Nat)) := by
  unfold aheads
  rw [List.getElem?_map, List.getElem?_range (by omega)]; rfl

/-- v is the form f -/
def FormAt (F : Nat → Prop) (w : World) (v : Value) : Fm → Prop
  | .none => v = .iface 65 (.agg #[])
  | .place bs => ∃ a c, v = .iface 67 (.slice a bs.length c) ∧ RdF F w 1 (.slice a bs.length c) bs.length (bs.map .bool) ∧ bs.length ≤ 65536
  | .things bs n => ∃ a c a' c', v = .iface 69 (.agg #[.slice a bs.length c, .slice a' (bs.length + 1) c', .int .u64 (n : Nat)]) ∧ RdF F w 1 (.slice a bs.length c) bs.length (bs.map .bool) ∧
      RdF F w 1 (.slice a' (bs.length + 1) c') (bs.length + 1) (aheads bs) ∧ 0 < bs.length ∧ bs.length ≤ 65536 ∧ n * bs.length ≤ 137438953472

theorem FormAt.fr {F S : Nat → Prop} {w w' : World} {v : Value} {f : Fm} (h : FormAt F w v f) (hf : Fr S w w') (hS : ∀ b, F b → ¬ S b) : FormAt F w' v f := by
  cases f with
  | none => exact h
  | place bs => obtain ⟨a, c, h1, h2, h3⟩ := h; exact ⟨a, c, h1, h2.fr hf hS, h3⟩
  | things bs n => obtain ⟨a, c, a', c', h1, h2, h3, h4⟩ := h; exact ⟨a, c, a', c', h1, h2.fr hf hS, h3.fr hf hS, h4⟩
theorem FormAt.mono {F G : Nat → Prop} {w : World} {v : Value} {f : Fm} (h : FormAt F w v f) (hG : ∀ b, F b → G b) : FormAt G w v f := by
  cases f with
  | none => exact h
  | place bs => obtain ⟨a, c, h1, h2, h3⟩ := h; exact ⟨a, c, h1, h2.mono hG, h3⟩
  | things bs n => obtain ⟨a, c, a', c', h1, h2, h3, h4⟩ := h; exact ⟨a, c, a', c', h1, h2.mono hG, h3.mono hG, h4⟩

/-- the i-th of a row of one cell each -/
theorem rd_at {w : World} {a : Option Addr} {n c : Nat} {xs : List Value} (h : Rd w 1 (.slice a n c) n xs) {i : Nat} {u : Value} (hi : xs[i]? = some u) : ∃ b o, a = some ⟨b, o, none⟩ ∧ w.cell? ⟨b, o + i, none⟩ = some u := by
  obtain ⟨a', c', hv, _, _, _, hx⟩ := h
  simp only [Value.slice.injEq] at hv
  obtain ⟨rfl, _, rfl⟩ := hv
  obtain ⟨ad, rfl, hc⟩ := hx i u hi
  obtain ⟨b, o, spot⟩ := ad
  have hspot : spot = none := by
    have h0 : ∃ u0, xs[0]? = some u0 := ⟨_, List.getElem?_eq_getElem (by have := (List.getElem?_eq_some_iff.1 hi).1; omega)⟩
    obtain ⟨u0, hu0⟩ := h0
    obtain ⟨ad', he, hc0⟩ := hx 0 u0 hu0
    simp only [Option.some.injEq] at he
    subst he
    have := World.cell?_spot hc0
    simpa [Addr.add] using this
  subst hspot
  refine ⟨b, o, rfl, ?_⟩
  have hadd : (⟨b, o, none⟩ : Addr).add i = ⟨b, o + i, none⟩ := by unfold Addr.add; split <;> simp_all
  rw [hadd] at hc; exact hc

theorem bools_get {bs : List Bool} {i : Nat} (h : i < bs.length) : (bs.map Value.bool)[i]? = some (.bool (bit bs i)) := by
  have e : bs[i]? = some bs[i] := List.getElem?_eq_getElem h
  rw [List.getElem?_map, e, bit_in e]; rfl

theorem place_at {w : World} {bs : List Bool} {a : Option Addr} {c : Nat} (h : Rd w 1 (.slice a bs.length c) bs.length (bs.map .bool)) (hb : bs.length ≤ 65536) (i : Nat) (hi : i ≤ 35184372088832) :
    Calls Try.prog 48 #[.slice a bs.length c, .int .u64 i] w fun e w' => e = .returned (.bool (bit bs i)) ∧ w = w' := by
  by_cases hlt : i < bs.length
  · obtain ⟨b, o, rfl, hc⟩ := rd_at h (bools_get hlt)
    clear h
    go_enter Try.func48, Try.ntmps48
    go_wp2
    go_ret
    exact ⟨rfl, rfl⟩
  · have hd : decide (i < bs.length) = false := by simpa using hlt
    have e := Lib.hid (bit_out (bs := bs) (i := i) (by omega))
    clear h hlt
    go_enter Try.func48, Try.ntmps48
    go_wp2
    go_ret
    exact ⟨by rw [e.out]; rfl, rfl⟩
end Go.Proofs.Ytcnnibhipjkgiaa
