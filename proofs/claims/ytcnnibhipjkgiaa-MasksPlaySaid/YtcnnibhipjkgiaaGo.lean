/-
  Going through the pieces of a block: plain facts.
-/
import Derived.Test.YtcnnibhipjkgiaaMine
namespace Go.Proofs.Ytcnnibhipjkgiaa
open Go.RowKit Go.Deep

/-- the words ahead of e are told, the pieces ahead of i too -/
structure Going (L : List PV) (fr tt e i : Nat) : Prop where
  lo : fr ≤ e
  hi : e ≤ tt
  done : ∀ j x, j < i → L[j]? = some x → x.1.to_ ≤ e ∨ e = tt
  todo : ∀ j x, i ≤ j → L[j]? = some x → e < x.1.to_ ∧ (e ≤ x.1.from_ ∨ e ≤ fr)

theorem sem_out {L : List PV} {z : Nat} (h : ∀ (j : Nat) x, L[j]? = some x → z < x.1.from_ ∨ x.1.to_ ≤ z) : sem (L.map (·.1)) z = false := by
  unfold sem
  refine any_false (fun y hy => ?_)
  obtain ⟨x, hx, rfl⟩ := List.mem_map.1 hy
  obtain ⟨j, hj⟩ := List.mem_iff_getElem?.1 hx
  unfold Pc.has
  rcases h j x hj with h | h
  · have : decide (x.1.from_ ≤ z) = false := by simp; omega
    simp [this]
  · have : decide (z < x.1.to_) = false := by simp; omega
    simp [this]

theorem rows_lt {L : List PV} (h : Rows (L.map (·.1))) {i j : Nat} {x y : PV} (hij : i < j) (hi : L[i]? = some x) (hj : L[j]? = some y) : x.1.to_ ≤ y.1.from_ := by
  have ho := h.ord
  rw [List.pairwise_map] at ho
  obtain ⟨hi1, hi2⟩ := List.getElem?_eq_some_iff.1 hi
  obtain ⟨hj1, hj2⟩ := List.getElem?_eq_some_iff.1 hj
  have := List.pairwise_iff_getElem.1 ho i j hi1 hj1 hij
  rw [hi2, hj2] at this; exact this
theorem rows_ok {L : List PV} (h : Rows (L.map (·.1))) {i : Nat} {x : PV} (hi : L[i]? = some x) : x.1.from_ < x.1.to_ ∧ x.1.origin ≤ x.1.from_ ∧ x.1.to_ ≤ 35184372088832 :=
  h.ok x.1 (List.mem_map_of_mem (List.mem_of_getElem? hi))

theorem sem_in {L : List PV} (h : Rows (L.map (·.1))) {i z : Nat} {x : PV} (hi : L[i]? = some x) (h1 : x.1.from_ ≤ z) (h2 : z < x.1.to_) : sem (L.map (·.1)) z = x.1.f.at (z - x.1.origin) := by
  unfold sem
  cases hv : x.1.f.at (z - x.1.origin) with
  | true =>
    rw [List.any_eq_true]
    exact ⟨x.1, List.mem_map_of_mem (List.mem_of_getElem? hi), by unfold Pc.has; simp [h1, h2, hv]⟩
  | false =>
    refine any_false (fun y hy => ?_)
    obtain ⟨u, hu, rfl⟩ := List.mem_map.1 hy
    obtain ⟨j, hj⟩ := List.mem_iff_getElem?.1 hu
    unfold Pc.has
    rcases Nat.lt_trichotomy j i with hji | rfl | hji
    · have := rows_lt h hji hj hi
      have : decide (z < u.1.to_) = false := by simp; omega
      simp [this]
    · rw [hi] at hj; cases hj; simp [hv]
    · have := rows_lt h hji hi hj
      have : decide (u.1.from_ ≤ z) = false := by simp; omega
      simp [this]

theorem Going.start {L : List PV} {fr tt r : Nat} (hft : fr ≤ tt) (h2 : ∀ i x, i < r → L[i]? = some x → x.1.to_ ≤ fr) (h3 : ∀ i x, r ≤ i → L[i]? = some x → fr < x.1.to_) : Going L fr tt fr r :=
  ⟨Nat.le_refl _, hft, fun j x hj hx => .inl (h2 j x hj hx), fun j x hj hx => ⟨h3 j x hj hx, .inr (Nat.le_refl _)⟩⟩

theorem Going.gap {L : List PV} {fr tt e i : Nat} {x : PV} (g : Going L fr tt e i) (h : Rows (L.map (·.1))) (hx : L[i]? = some x) (hlt : x.1.from_ < tt) (hft : fr < tt) {z : Nat} (h1 : e ≤ z) (h2 : z < x.1.from_) : sem (L.map (·.1)) z = false := by
  refine sem_out (fun j y hy => ?_)
  rcases Nat.lt_trichotomy j i with hji | rfl | hji
  · rcases g.done j y hji hy with h3 | h3
    · exact .inr (by omega)
    · omega
  · rw [hx] at hy; cases hy; exact .inl h2
  · have := rows_lt h hji hx hy
    have := rows_ok h hx
    exact .inl (by omega)

theorem Going.next {L : List PV} {fr tt e i e' : Nat} {x : PV} (g : Going L fr tt e i) (h : Rows (L.map (·.1))) (hx : L[i]? = some x) (hlt : x.1.from_ < tt) (hft : fr < tt) (he : e' = if x.1.to_ ≤ tt then x.1.to_ else tt) : Going L fr tt e' (i + 1) := by
  have h1 := g.todo i x (Nat.le_refl _) hx
  have h2 := g.lo
  have h3 := g.hi
  have hle : e ≤ e' := by rw [he]; split <;> omega
  refine ⟨by omega, by rw [he]; split <;> omega, fun j y hj hy => ?_, fun j y hj hy => ?_⟩
  · by_cases hji : j = i
    · subst hji
      rw [hx] at hy; cases hy
      rw [he]; split
      · exact .inl (Nat.le_refl _)
      · exact .inr rfl
    · rcases g.done j y (by omega) hy with h4 | h4
      · exact .inl (by omega)
      · rw [he]
        split
        · rcases h1.2 with h5 | h5 <;> omega
        · exact .inr rfl
  · have h4 := rows_lt h (by omega : i < j) hx hy
    have h5 := rows_ok h hy
    rw [he]
    split <;> constructor <;> omega

theorem Going.end_ {L : List PV} {fr tt e i : Nat} (g : Going L fr tt e i) (h : Rows (L.map (·.1))) (hx : ∀ x, L[i]? = some x → tt ≤ x.1.from_) {z : Nat} (h1 : e ≤ z) (h2 : z < tt) : sem (L.map (·.1)) z = false := by
  refine sem_out (fun j y hy => ?_)
  rcases Nat.lt_or_ge j i with hji | hji
  · rcases g.done j y hji hy with h3 | h3
    · exact .inr (by omega)
    · omega
  · have hil : i < L.length := by have := (List.getElem?_eq_some_iff.1 hy).1; omega
    obtain ⟨x, hxi⟩ : ∃ x, L[i]? = some x := ⟨_, List.getElem?_eq_getElem hil⟩
    have h3 := hx x hxi
    have h4 := rows_ok h hxi
    by_cases e : j = i
    · subst e; rw [hxi] at hy; cases hy; exact .inl (by omega)
    · have h5 := rows_lt h (by omega : i < j) hxi hy
      exact .inl (by omega)

/-- the count goes on over a piece -/
theorem Going.count {L : List PV} {fr tt e i lo hi : Nat} {x : PV} (g : Going L fr tt e i) (h : Rows (L.map (·.1))) (hx : L[i]? = some x) (hlt : x.1.from_ < tt) (hft : fr < tt) (hlo : lo = if x.1.from_ ≤ fr then fr else x.1.from_) (hhi : hi = if x.1.to_ ≤ tt then x.1.to_ else tt) :
    cnt (sem (L.map (·.1))) fr hi = cnt (sem (L.map (·.1))) fr e + cnt x.1.f.at (lo - x.1.origin) (hi - x.1.origin) ∧ x.1.origin ≤ lo ∧ lo ≤ hi ∧ hi ≤ 35184372088832 := by
  have h1 := g.todo i x (Nat.le_refl _) hx
  have h2 := g.lo
  have h3 := g.hi
  have h4 := rows_ok h hx
  have hlh : lo ≤ hi := by rw [hlo, hhi]; split <;> split <;> omega
  have hel : e ≤ lo := by
    rw [hlo]; split
    · rcases h1.2 with h5 | h5 <;> omega
    · rcases h1.2 with h5 | h5 <;> omega
  have hol : x.1.origin ≤ lo := by rw [hlo]; split <;> omega
  have hxl : x.1.from_ ≤ lo := by rw [hlo]; split <;> omega
  have hxh : hi ≤ x.1.to_ := by rw [hhi]; split <;> omega
  refine ⟨?_, hol, hlh, by omega⟩
  rw [cnt_split (sem (L.map (·.1))) (show fr ≤ e by omega) (show e ≤ hi by omega), cnt_split (sem (L.map (·.1))) hel hlh]
  have e1 : cnt (sem (L.map (·.1))) e lo = 0 := cnt_false (fun z hz1 hz2 => g.gap h hx hlt hft hz1 (by
    rw [hlo] at hz2; split at hz2 <;> omega))
  have e2 : cnt (sem (L.map (·.1))) lo hi = cnt x.1.f.at (lo - x.1.origin) (hi - x.1.origin) := by
    rw [cnt_congr (q := fun z => x.1.f.at (z - x.1.origin)) (fun z hz1 hz2 => sem_in h hx (by omega) (by omega))]
    have := cnt_shift (fun z => x.1.f.at (z - x.1.origin)) x.1.origin (lo - x.1.origin) (hi - x.1.origin)
    rw [show x.1.origin + (lo - x.1.origin) = lo by omega, show x.1.origin + (hi - x.1.origin) = hi by omega] at this
    rw [← this]
    exact cnt_congr (fun z _ _ => by rw [Nat.add_sub_cancel_left])
  rw [e1, e2, Nat.zero_add]

theorem Going.all {L : List PV} {fr tt e i : Nat} (g : Going L fr tt e i) (h : Rows (L.map (·.1))) (hx : ∀ x, L[i]? = some x → tt ≤ x.1.from_) : cnt (sem (L.map (·.1))) fr tt = cnt (sem (L.map (·.1))) fr e := by
  rw [cnt_split (sem (L.map (·.1))) g.lo g.hi, cnt_false (i := e) (fun z h1 h2 => g.end_ h hx h1 h2), Nat.add_zero]
end Go.Proofs.Ytcnnibhipjkgiaa
