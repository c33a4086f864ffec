/-
  The pieces of package masks in memory; right, New, at.
-/
import Derived.Test.YtcnnibhipjkgiaaAns
namespace Go.Proofs.Ytcnnibhipjkgiaa
open Go.RowKit Go.Deep

/-- rows of k cells each -/
theorem flat_get {α : Type} {f : α → List Value} {k : Nat} (hk : ∀ x, (f x).length = k) {L : List α} {i : Nat} {x : α} (h : L[i]? = some x) {j : Nat} (hj : j < k) : (L.flatMap f)[i * k + j]? = (f x)[j]? := by
  induction L generalizing i with
  | nil => simp at h
  | cons y L ih =>
    cases i with
    | zero =>
      simp only [List.getElem?_cons_zero, Option.some.injEq] at h
      subst h
      rw [List.flatMap_cons, Nat.zero_mul, Nat.zero_add, List.getElem?_append_left (by rw [hk]; exact hj)]
    | succ i =>
      rw [List.flatMap_cons, List.getElem?_append_right (by rw [hk, Nat.add_mul]; omega), hk]
      have e : (i + 1) * k + j - k = i * k + j := by rw [Nat.add_mul]; omega
      rw [e]
      exact ih (by simpa using h)
theorem flat_len {α : Type} {f : α → List Value} {k : Nat} (hk : ∀ x, (f x).length = k) (L : List α) : (L.flatMap f).length = L.length * k := by
  induction L with
  | nil => simp
  | cons y L ih => rw [List.flatMap_cons, List.length_append, ih, hk, List.length_cons, Nat.add_mul]; omega
theorem flat_take {α : Type} {f : α → List Value} {k : Nat} (hk : ∀ x, (f x).length = k) (L : List α) (n : Nat) (hn : n ≤ L.length) : (L.flatMap f).take (n * k) = (L.take n).flatMap f := by
  have e : L.flatMap f = (L.take n).flatMap f ++ (L.drop n).flatMap f := by rw [← List.flatMap_append, List.take_append_drop]
  rw [e, List.take_append_of_le_length (by rw [flat_len hk, List.length_take, Nat.min_eq_left hn]; exact Nat.le_refl _), List.take_of_length_le (by rw [flat_len hk, List.length_take, Nat.min_eq_left hn]; exact Nat.le_refl _)]
theorem flat_drop {α : Type} {f : α → List Value} {k : Nat} (hk : ∀ x, (f x).length = k) (L : List α) (n : Nat) (hn : n ≤ L.length) : (L.flatMap f).drop (n * k) = (L.drop n).flatMap f := by
  have e : L.flatMap f = (L.take n).flatMap f ++ (L.drop n).flatMap f := by rw [← List.flatMap_append, List.take_append_drop]
  have h : ((L.take n).flatMap f).length = n * k := by rw [flat_len hk, List.length_take, Nat.min_eq_left hn]
  rw [e, ← h, List.drop_left]

/-- the i-th of a row of k cells each -/
theorem rd_rows {α : Type} {f : α → List Value} {k : Nat} (hk : ∀ x, (f x).length = k) (h0 : 0 < k) {w : World} {a : Option Addr} {n c : Nat} {L : List α} (h : Rd w k (.slice a n c) n (L.flatMap f)) {i : Nat} {x : α} (hi : L[i]? = some x) :
    ∃ b o, a = some ⟨b, o, none⟩ ∧ ∀ j u, (f x)[j]? = some u → w.cell? ⟨b, o + i * k + j, none⟩ = some u := by
  obtain ⟨a', c', hv, _, _, _, hx⟩ := h
  simp only [Value.slice.injEq] at hv
  obtain ⟨rfl, _, rfl⟩ := hv
  have hpos : ∃ y, (f x)[0]? = some y := ⟨_, List.getElem?_eq_getElem (by rw [hk]; exact h0)⟩
  obtain ⟨y, hy⟩ := hpos
  obtain ⟨ad, rfl, hc⟩ := hx (i * k + 0) y (by rw [flat_get hk hi h0]; exact hy)
  obtain ⟨b, o, spot⟩ := ad
  have hspot : spot = none := by
    have hL : 0 < L.length := by have := (List.getElem?_eq_some_iff.1 hi).1; omega
    obtain ⟨z, hz⟩ : ∃ z, L[0]? = some z := ⟨_, List.getElem?_eq_getElem hL⟩
    obtain ⟨u0, hu0⟩ : ∃ u0, (f z)[0]? = some u0 := ⟨_, List.getElem?_eq_getElem (by rw [hk]; exact h0)⟩
    obtain ⟨ad', he, hc0⟩ := hx 0 u0 (by have := flat_get hk hz h0; rw [Nat.zero_mul, Nat.zero_add] at this; rw [this]; exact hu0)
    simp only [Option.some.injEq] at he
    subst he
    have := World.cell?_spot hc0
    simpa [Addr.add] using this
  subst hspot
  refine ⟨b, o, rfl, fun j u hu => ?_⟩
  have hj : j < k := by have := (List.getElem?_eq_some_iff.1 hu).1; rw [hk] at this; exact this
  obtain ⟨ad', he, hc1⟩ := hx (i * k + j) u (by rw [flat_get hk hi hj]; exact hu)
  simp only [Option.some.injEq] at he
  subst he
  have hadd : (⟨b, o, none⟩ : Addr).add (i * k + j) = ⟨b, o + i * k + j, none⟩ := by unfold Addr.add; split <;> simp_all <;> omega
  rw [hadd] at hc1; exact hc1

/-- a piece and its form's value -/
abbrev PV := Pc × Value

def pcc (x : PV) : List Value := [.int .u64 (x.1.from_ : Nat), .int .u64 (x.1.to_ : Nat), .int .u64 (x.1.origin : Nat), x.2]
theorem pcc_len (x : PV) : (pcc x).length = 4 := rfl

/-- what the Masks in block m know, in blocks that F names -/
structure Is (w : World) (m : Nat) (L : List PV) (F : Nat → Prop) : Prop where
  row : ∃ a c, w.heap[m]? = some (.cells #[.slice a L.length c] 53 (0, 0)) ∧ RdF F w 4 (.slice a L.length c) L.length (L.flatMap pcc)
  forms : ∀ x ∈ L, FormAt F w x.2 x.1.f
  rows : Rows (L.map (·.1))
  own : ¬ F m
  lt : ∀ b, F b → b < w.heap.size

theorem Is.fr {S F : Nat → Prop} {w w' : World} {m : Nat} {L : List PV} (h : Is w m L F) (hf : Fr S w w') (hS : ∀ b, F b → ¬ S b) (hm : ¬ S m) : Is w' m L F := by
  obtain ⟨a, c, h1, h2⟩ := h.row
  exact ⟨⟨a, c, hf.at h1 hm, h2.fr hf hS⟩, fun x hx => (h.forms x hx).fr hf hS, h.rows, h.own, fun b hb => Nat.lt_of_lt_of_le (h.lt b hb) hf.size⟩
theorem Is.quiet {F : Nat → Prop} {w w' : World} {m : Nat} {L : List PV} (h : Is w m L F) (hf : Fr (fun _ => False) w w') : Is w' m L F := h.fr hf (fun _ _ x => x) (fun x => x)

theorem Is.piece {F : Nat → Prop} {w : World} {m : Nat} {L : List PV} (h : Is w m L F) : ∃ a c, w.cell? ⟨m, 0, none⟩ = some (.slice a L.length c) ∧ L.length ≤ c ∧ ∀ i x, L[i]? = some x → ∃ b o, a = some ⟨b, o, none⟩ ∧ F b ∧ w.cell? ⟨b, o + i * 4, none⟩ = some (.int .u64 (x.1.from_ : Nat)) ∧ w.cell? ⟨b, o + i * 4 + 1, none⟩ = some (.int .u64 (x.1.to_ : Nat)) ∧ w.cell? ⟨b, o + i * 4 + 2, none⟩ = some (.int .u64 (x.1.origin : Nat)) ∧ w.cell? ⟨b, o + i * 4 + 3, none⟩ = some x.2 := by
  obtain ⟨a, c, h1, h2⟩ := h.row
  refine ⟨a, c, cell_blk h1 0, ?_, fun i x hi => ?_⟩
  · obtain ⟨a', c', hv, hle, _⟩ := h2.1
    simp only [Value.slice.injEq] at hv
    rw [hv.2.2]; exact hle
  · obtain ⟨b, o, rfl, hc⟩ := rd_rows pcc_len (by decide) h2.1 hi
    exact ⟨b, o, rfl, h2.2 _ _ _ rfl, hc 0 _ rfl, hc 1 _ rfl, hc 2 _ rfl, hc 3 _ rfl⟩

/-- is a block right? -/
def Right (a n : Nat) : Prop := a % 8 = 0 ∧ n % 8 = 0 ∧ n ≠ 0 ∧ n ≤ 1099511627776 ∧ a ≤ 281474976710656 ∧ n ≤ 281474976710656 - a
instance (a n : Nat) : Decidable (Right a n) := by unfold Right; exact inferInstance

set_option maxHeartbeats 1000000 in
theorem right_any (w : World) (a n : Nat) (ha : a ≤ 18446744073709551615) (hn : n ≤ 18446744073709551615) :
    Calls Try.prog 16 #[.int .u64 a, .int .u64 n] w fun e w' => e = .returned (.bool (decide (Right a n))) ∧ w = w' := by
  by_cases h1 : a % 8 = 0
  · by_cases h2 : n % 8 = 0
    · by_cases h3 : n = 0
      · have e : decide (Right a n) = false := by unfold Right; simp [h3]
        rw [e]
        go_enter Try.func16, Try.ntmps16
        go_wp2
        go_ret
        exact ⟨rfl, rfl⟩
      · by_cases h4 : n ≤ 1099511627776
        · by_cases h5 : a ≤ 281474976710656
          · by_cases h6 : n ≤ 281474976710656 - a
            · have e : decide (Right a n) = true := by unfold Right; simp [h1, h2, h3, h4, h5, h6]
              rw [e]
              have d3 : (((n : Nat) : Int) != 0) = true := by simpa using h3
              have d6 : decide (((n : Nat) : Int) ≤ 281474976710656 - ((a : Nat) : Int)) = true := by simp; omega
              go_enter Try.func16, Try.ntmps16
              go_wp2
              go_ret
              exact ⟨rfl, rfl⟩
            · have e : decide (Right a n) = false := by unfold Right; simp [h6]
              rw [e]
              have d3 : (((n : Nat) : Int) != 0) = true := by simpa using h3
              have d6 : decide (((n : Nat) : Int) ≤ 281474976710656 - ((a : Nat) : Int)) = false := by simp; omega
              go_enter Try.func16, Try.ntmps16
              go_wp2
              go_ret
              exact ⟨rfl, rfl⟩
          · have e : decide (Right a n) = false := by unfold Right; simp [h5]
            rw [e]
            go_enter Try.func16, Try.ntmps16
            go_wp2
            go_ret
            exact ⟨rfl, rfl⟩
        · have e : decide (Right a n) = false := by unfold Right; simp [h4]
          rw [e]
          go_enter Try.func16, Try.ntmps16
          go_wp2
          go_ret
          exact ⟨rfl, rfl⟩
    · have e : decide (Right a n) = false := by unfold Right; simp [h2]
      rw [e]
      go_enter Try.func16, Try.ntmps16
      go_wp2
      go_ret
      exact ⟨rfl, rfl⟩
  · have e : decide (Right a n) = false := by unfold Right; simp [h1]
    rw [e]
    go_enter Try.func16, Try.ntmps16
    go_wp2
    go_ret
    exact ⟨rfl, rfl⟩

/-- does a piece end behind a word? -/
def behind (L : List PV) (z : Nat) (i : Nat) : Bool := match L[i]? with
  | some x => decide (z < x.1.to_)
  | none => true

set_option maxHeartbeats 1000000 in
theorem at_one (l z m : Nat) (i : Nat) (L : List PV) (F : Nat → Prop) (word : Nat) (x : PV) (w : World) (hl : w.cell? ⟨l, 0, none⟩ = some (.pointer (some ⟨m, 0, none⟩))) (hz : w.cell? ⟨z, 0, none⟩ = some (.int .u64 word))
    (h : Is w m L F) (hi : L[i]? = some x) (hn : L.length ≤ 1000000) :
    Calls Try.prog 25 #[.int .i64 i, .pointer (some ⟨l, 0, none⟩), .pointer (some ⟨z, 0, none⟩)] w fun e w' => e = .returned (.bool (behind L word i)) ∧ ∃ q, w' = w.drewN q := by
  obtain ⟨a, c, hr, _, hx⟩ := h.piece
  obtain ⟨b, o, rfl, _, h0, h1, _, _⟩ := hx i x hi
  have hlt : i < L.length := (List.getElem?_eq_some_iff.1 hi).1
  have E : behind L word i = decide (word < x.1.to_) := by unfold behind; rw [hi]
  rw [E]
  clear E hx hi h h0
  go_enter Try.func25, Try.ntmps25
  go_wp2_with fail
  go_quiet (fail)
  go_wp2
  go_ret
  exact ⟨rfl, _, rfl⟩
theorem behind_mono {F : Nat → Prop} {w : World} {m : Nat} {L : List PV} (h : Is w m L F) (word : Nat) (i j : Nat) (hij : i ≤ j) (hj : j < L.length) (hi : behind L word i = true) : behind L word j = true := by
  by_cases e : i = j
  · subst e; exact hi
  · have hlt : i < L.length := by omega
    have h1 := List.pairwise_iff_getElem.1 h.rows.ord i j (by simpa using hlt) (by simpa using hj) (by omega)
    have h2 := h.rows.ok L[j].1 (List.mem_map_of_mem (List.getElem_mem hj))
    simp only [List.getElem_map] at h1 h2
    unfold behind at hi ⊢
    rw [List.getElem?_eq_getElem hlt] at hi
    rw [List.getElem?_eq_getElem hj]
    simp only [decide_eq_true_eq] at hi ⊢
    omega

/-- what 'at' answers -/
def AtPost (L : List PV) (word : Nat) (w : World) (e : Ending) (w' : World) : Prop :=
  ∃ r : Nat, e = .returned (.int .i64 r) ∧ Hid (r ≤ L.length ∧ (∀ i x, i < r → L[i]? = some x → x.1.to_ ≤ word) ∧ (∀ i x, r ≤ i → L[i]? = some x → word < x.1.to_)) ∧ Hid (Fr (fun _ => False) w w')

set_option maxHeartbeats 1000000 in
theorem at_any {F : Nat → Prop} {m : Nat} {L : List PV} (w : World) (h : Is w m L F) (word : Nat) (hn : L.length ≤ 1000000) :
    Calls Try.prog 19 #[.pointer (some ⟨m, 0, none⟩), .int .u64 word] w (AtPost L word w) := by
  have fr : Fr (fun _ => False) w ((w.alloc (.cells #[.pointer (some ⟨m, 0, none⟩)] 24)).alloc (.cells #[.int .u64 word] 23)) := ((Fr.refl _ w).alloc _).alloc _
  have hs : Calls Try.prog 24 #[.int .i64 L.length, .func (.func 25) #[] #[.pointer (some ⟨w.heap.size, 0, none⟩), .pointer (some ⟨w.heap.size + 1, 0, none⟩)]]
      ((w.alloc (.cells #[.pointer (some ⟨m, 0, none⟩)] 24)).alloc (.cells #[.int .u64 word] 23)) (AtPost L word w) := by
    refine (search_any (p := behind L word) _ (fun args w => by simp [callFunc, Try.func25, Try.f25]) (by omega) (fun k i hi => ?_) (behind_mono h word)).mono ?_
    · obtain ⟨x, hx⟩ : ∃ x, L[i]? = some x := ⟨_, List.getElem?_eq_getElem hi⟩
      have := at_one w.heap.size (w.heap.size + 1) m i L F word x (((w.alloc (.cells #[.pointer (some ⟨m, 0, none⟩)] 24)).alloc (.cells #[.int .u64 word] 23)).drewN k)
        (cell_blk (w := ((w.alloc (.cells #[.pointer (some ⟨m, 0, none⟩)] 24)).alloc (.cells #[.int .u64 word] 23))) (c := #[.pointer (some ⟨m, 0, none⟩)]) (by rw [heap_alloc, if_neg (by simp), heap_alloc, if_pos rfl]) 0)
        (cell_blk (w := ((w.alloc (.cells #[.pointer (some ⟨m, 0, none⟩)] 24)).alloc (.cells #[.int .u64 word] 23))) (c := #[.int .u64 word]) (by rw [heap_alloc, if_pos (by simp)]) 0) (h.quiet (fr.drewN k)) hx hn
      refine this.mono fun e w' ⟨he, q, hq⟩ => ⟨he, k + q, by rw [hq, World.drewN_drewN]⟩
    · rintro e w' ⟨r, q, rfl, rfl, h1, h2, h3⟩
      refine ⟨r, rfl, Lib.hid ⟨h1, fun i x hi hx => ?_, fun i x hi hx => ?_⟩, Lib.hid (fr.drewN q)⟩
      · have := h2 i hi; unfold behind at this; rw [hx] at this; simpa using this
      · have := h3 i hi (List.getElem?_eq_some_iff.1 hx).1; unfold behind at this; rw [hx] at this; simpa using this
  obtain ⟨a, c, hr, hle, _⟩ := h.piece
  have hr := cell_through fr hr (fun x => x)
  have HS := Lib.hid hs
  clear hs fr h
  go_enter Try.func19, Try.ntmps19
  go_wp2_with (first | (go_at_call 24; refine HS.out.mono ?_; rintro e w' ⟨r, rfl, h1, h2⟩))
  go_ret
  exact ⟨r, rfl, h1, h2⟩

/-- a new one knows of none -/
theorem new_any (w : World) : Calls Try.prog 7 #[] w fun e w' => ∃ m, e = .returned (.pointer (some ⟨m, 0, none⟩)) ∧ w.heap.size ≤ m ∧ Hid (Is w' m [] (fun _ => False)) ∧ Hid (Fr (fun _ => False) w w') := by
  go_enter Try.func7, Try.ntmps7
  go_wp2
  go_ret
  exact ⟨w.heap.size, rfl, Nat.le_refl _, Lib.hid ⟨⟨none, 0, by rw [heap_alloc, if_pos rfl]; rfl, ⟨none, 0, rfl, Nat.le_refl _, rfl, fun _ => rfl, by simp⟩, by simp⟩, by simp, ⟨by simp, by simp⟩, id, fun _ hb => hb.elim⟩, Lib.hid ((Fr.refl _ w).alloc _)⟩
end Go.Proofs.Ytcnnibhipjkgiaa
