/-
  heavy: is more asked for than the statements reach?
-/
import Derived.Test.YtcnnibhipjkgiaaActs
namespace Go.Proofs.Ytcnnibhipjkgiaa
open Go.RowKit Go.Deep

/-- what is known of an act that is not heavy -/
def Light (x : Av) : Prop := x.bs.length ≤ 20000 ∧ (x.what = 3 → x.bytes ≤ 40000 ∨ 1048576 < x.bytes)

/-- the acts of a slice, each known by its place -/
structure ActAt (w : World) (b o : Nat) (x : Av) : Prop where
  c0 : w.cell? ⟨b, o, none⟩ = some (.int .i64 x.what)
  c1 : w.cell? ⟨b, o + 1, none⟩ = some (.int .u64 (x.addr : Nat))
  c2 : w.cell? ⟨b, o + 2, none⟩ = some (.int .u64 (x.bytes : Nat))
  c3 : w.cell? ⟨b, o + 3, none⟩ = some (.int .i64 x.words)
  c4 : w.cell? ⟨b, o + 4, none⟩ = some (.slice x.a x.bs.length x.c)
  c5 : w.cell? ⟨b, o + 5, none⟩ = some (.int .u64 (x.n : Nat))

def ActsL (w : World) (ad : Option Addr) (L : List Av) : Prop :=
  ∀ i x, L[i]? = some x → ∃ b o, ad = some ⟨b, o, none⟩ ∧ ActAt w b (o + i * 6) x ∧ x.Ok ∧ Rd w 1 (.slice x.a x.bs.length x.c) x.bs.length (x.bs.map .bool)

theorem acts_list {w : World} {v : Value} {len : Nat} (h : Acts w v len) : ∃ ad c L, v = .slice ad len c ∧ L.length = len ∧ len ≤ 9223372036854775807 ∧ ActsL w ad L := by
  obtain ⟨ad, c, rfl, hm, h⟩ := h
  have hx : ∀ i : Fin len, ∃ x : Av, ∃ b o, ad = some ⟨b, o, none⟩ ∧ ActAt w b (o + i.1 * 6) x ∧ x.Ok ∧ Rd w 1 (.slice x.a x.bs.length x.c) x.bs.length (x.bs.map .bool) := fun i => by
    obtain ⟨b, o, x, h1, h2, h3, h4⟩ := h i.1 i.2
    exact ⟨x, b, o, h1, ⟨h4 0 _ rfl, h4 1 _ rfl, h4 2 _ rfl, h4 3 _ rfl, h4 4 _ rfl, h4 5 _ rfl⟩, h2, h3⟩
  let f : Fin len → Av := fun i => Classical.choose (hx i)
  refine ⟨ad, c, List.ofFn f, rfl, by simp, hm, fun i x hi => ?_⟩
  have hi' := hi
  rw [List.getElem?_ofFn] at hi
  by_cases hl : i < len
  · simp only [hl, dif_pos, Option.some.injEq] at hi
    subst hi
    exact Classical.choose_spec (hx ⟨i, hl⟩)
  · simp [hl] at hi

theorem ActsL.fr {w w' : World} {ad : Option Addr} {L : List Av} (h : ActsL w ad L) (hf : Fr (fun _ => False) w w') : ActsL w' ad L := fun i x hi => by
  obtain ⟨b, o, h1, h2, h3, h4⟩ := h i x hi
  exact ⟨b, o, h1, ⟨cell_through hf h2.c0 (fun x => x), cell_through hf h2.c1 (fun x => x), cell_through hf h2.c2 (fun x => x), cell_through hf h2.c3 (fun x => x), cell_through hf h2.c4 (fun x => x), cell_through hf h2.c5 (fun x => x)⟩, h3, h4.fr hf (fun _ _ x => x)⟩

def Weighed (w : World) (L : List Av) (e : Ending) (w' : World) : Prop :=
  ∃ b, e = .returned (.bool b) ∧ Hid ((b = false → L.length ≤ 60 ∧ ∀ x ∈ L, Light x) ∧ Fr (fun _ => False) w w')

set_option maxRecDepth 100000 in
set_option maxHeartbeats 4000000 in
theorem heavy_any (w : World) (ad : Option Addr) (c : Nat) (L : List Av) (h : ActsL w ad L) (hm : L.length ≤ 9223372036854775807) :
    Calls Try.prog 13 #[.slice ad L.length c] w (Weighed w L) := by
  have HL := Lib.hid h
  clear h
  go_enter Try.func13, Try.ntmps13
  go_wp2
  go_loopg [3, 4] L.length (fun kk n i wr => ∃ s q : Nat, n = .int .i64 s ∧ i = .int .i64 q ∧ s ≤ 20000 ∧ Hid (w = wr ∧ q ≤ L.length ∧ (∀ j x, j < q → L[j]? = some x → Light x) ∧ L.length - q ≤ kk))
  case atStart => exact ⟨0, 0, rfl, rfl, by omega, Lib.hid ⟨rfl, Nat.zero_le _, fun j x h => by omega, Nat.le_refl _⟩⟩
  case round =>
    obtain ⟨s, q, rfl, rfl, hs, HQ⟩ := hrel
    have hw := HQ.out.1
    subst hw
    by_cases hlt : q < L.length
    · obtain ⟨x, hx⟩ : ∃ x, L[q]? = some x := ⟨_, List.getElem?_eq_getElem hlt⟩
      obtain ⟨b, o, rfl, ⟨c0, c1, c2, c3, c4, c5⟩, hok, hrd⟩ := HL.out q x hx
      have hlen := hok.len
      have HX := Lib.hid hx
      clear hx hrd hok c1 c3 c5
      obtain ⟨what, addr, bytes, words, bs, xa, xc, n⟩ := x
      simp only at c0 c2 c4 hlen
      by_cases g1 : 20000 < s + bs.length
      · have g1' : (20000 : Int) < ((s : Nat) : Int) + ((bs.length : Nat) : Int) := by omega
        have g1b : decide ((20000 : Int) < ((s : Nat) : Int) + ((bs.length : Nat) : Int)) = true := by simpa using g1'
        go_wp2
        go_ret
        exact ⟨true, rfl, Lib.hid ⟨fun e => by simp at e, Fr.refl _ _⟩⟩
      · have g1' : ¬ (20000 : Int) < ((s : Nat) : Int) + ((bs.length : Nat) : Int) := by omega
        have g1b : decide ((20000 : Int) < ((s : Nat) : Int) + ((bs.length : Nat) : Int)) = false := by simpa using g1'
        have next : ∀ (h3 : what = 3 → bytes ≤ 40000 ∨ 1048576 < bytes), Hid (∀ j x, j < q + 1 → L[j]? = some x → Light x) := fun h3 => Lib.hid (fun j x hj hx => by
          by_cases e : j = q
          · subst e
            rw [HX.out] at hx
            simp only [Option.some.injEq] at hx
            subst hx
            exact ⟨by simp only; omega, h3⟩
          · exact HQ.out.2.2.1 j x (by omega) hx)
        by_cases g2 : what = 3
        · have g2b : (what == 3) = true := by simpa using g2
          by_cases g3 : 40000 < bytes
          · have g3b : decide ((40000 : Int) < ((bytes : Nat) : Int)) = true := by simpa using (by omega : (40000 : Int) < ((bytes : Nat) : Int))
            by_cases g4 : bytes ≤ 1048576
            · have g4b : decide (((bytes : Nat) : Int) ≤ 1048576) = true := by simpa using (by omega : ((bytes : Nat) : Int) ≤ 1048576)
              go_wp2
              go_ret
              exact ⟨true, rfl, Lib.hid ⟨fun e => by simp at e, Fr.refl _ _⟩⟩
            · have g4b : decide (((bytes : Nat) : Int) ≤ 1048576) = false := by simpa using (by omega : (1048576 : Int) < ((bytes : Nat) : Int))
              have N := next (fun _ => .inr (by omega))
              go_wp2
              go_roundg (L.length - (q + 1))
              case measure => have := HQ.out.2.2.2; omega
              case rel => exact ⟨s + bs.length, q + 1, by go_num, by go_num, by omega, Lib.hid ⟨rfl, hlt, N.out, Nat.le_refl _⟩⟩
          · have g3b : decide ((40000 : Int) < ((bytes : Nat) : Int)) = false := by simpa using (by omega : ((bytes : Nat) : Int) ≤ 40000)
            have N := next (fun _ => .inl (by omega))
            go_wp2
            go_roundg (L.length - (q + 1))
            case measure => have := HQ.out.2.2.2; omega
            case rel => exact ⟨s + bs.length, q + 1, by go_num, by go_num, by omega, Lib.hid ⟨rfl, hlt, N.out, Nat.le_refl _⟩⟩
        · have g2b : (what == 3) = false := by simpa using g2
          have N := next (fun e => absurd e g2)
          go_wp2
          go_roundg (L.length - (q + 1))
          case measure => have := HQ.out.2.2.2; omega
          case rel => exact ⟨s + bs.length, q + 1, by go_num, by go_num, by omega, Lib.hid ⟨rfl, hlt, N.out, Nat.le_refl _⟩⟩
    · have all : Hid (∀ x ∈ L, Light x) := Lib.hid (fun x hx => by
        obtain ⟨j, hj, rfl⟩ := List.mem_iff_getElem.1 hx
        exact HQ.out.2.2.1 j _ (by omega) (List.getElem?_eq_getElem hj))
      go_wp2
      go_ret
      refine ⟨_, rfl, Lib.hid ⟨fun e => ⟨?_, all.out⟩, Fr.refl _ _⟩⟩
      simp at e
      omega
end Go.Proofs.Ytcnnibhipjkgiaa
