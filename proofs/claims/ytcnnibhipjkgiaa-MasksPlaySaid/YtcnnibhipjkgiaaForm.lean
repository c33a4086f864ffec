/-
  Which words of a block are pointers, as plain data. No program in sight.
-/
import Derived.Test.YtcnnibhipjkgiaaMem
namespace Go.Proofs.Ytcnnibhipjkgiaa
open Go.RowKit

/-- how many of the first k are -/
def cntTo (p : Nat → Bool) : Nat → Nat
  | 0 => 0
  | k + 1 => cntTo p k + if p k then 1 else 0

theorem cntTo_le (p : Nat → Bool) (k : Nat) : cntTo p k ≤ k := by
  induction k with
  | zero => simp [cntTo]
  | succ k ih => simp only [cntTo]; split <;> omega
theorem cntTo_mono (p : Nat → Bool) {i j : Nat} (h : i ≤ j) : cntTo p i ≤ cntTo p j := by
  induction j with
  | zero => have : i = 0 := by omega
            subst this; exact Nat.le_refl _
  | succ j ih =>
    by_cases e : i = j + 1
    · subst e; exact Nat.le_refl _
    · have := ih (by omega); simp only [cntTo]; omega
theorem cntTo_congr {p q : Nat → Bool} {k : Nat} (h : ∀ i, i < k → p i = q i) : cntTo p k = cntTo q k := by
  induction k with
  | zero => rfl
  | succ k ih => simp only [cntTo]; rw [ih (fun i hi => h i (by omega)), h k (by omega)]
theorem cntTo_diff_le (p : Nat → Bool) {i j : Nat} (h : i ≤ j) : cntTo p j ≤ cntTo p i + (j - i) := by
  induction j with
  | zero => have : i = 0 := by omega
            subst this; simp [cntTo]
  | succ j ih =>
    by_cases e : i = j + 1
    · subst e; omega
    · have := ih (by omega); simp only [cntTo]; split <;> omega
/-- behind a shift -/
theorem cntTo_shift (p : Nat → Bool) (a k : Nat) : cntTo p (a + k) = cntTo p a + cntTo (fun i => p (a + i)) k := by
  induction k with
  | zero => rfl
  | succ k ih => rw [← Nat.add_assoc]; simp only [cntTo]; rw [ih]; omega
theorem cntTo_false {p : Nat → Bool} {k : Nat} (h : ∀ i, i < k → p i = false) : cntTo p k = 0 := by
  induction k with
  | zero => rfl
  | succ k ih => simp only [cntTo]; rw [ih (fun i hi => h i (by omega)), h k (by omega)]; simp

/-- how many of those from i to j are -/
def cnt (p : Nat → Bool) (i j : Nat) : Nat := cntTo p j - cntTo p i

theorem cnt_le (p : Nat → Bool) (i j : Nat) : cnt p i j ≤ j - i := by
  unfold cnt
  by_cases h : i ≤ j
  · have := cntTo_diff_le p h; omega
  · have := cntTo_mono p (show j ≤ i by omega); omega
theorem cnt_split (p : Nat → Bool) {i j k : Nat} (h : i ≤ j) (h' : j ≤ k) : cnt p i k = cnt p i j + cnt p j k := by
  unfold cnt
  have := cntTo_mono p h; have := cntTo_mono p h'; omega
theorem cnt_self (p : Nat → Bool) (i : Nat) : cnt p i i = 0 := by simp [cnt]
theorem cnt_shift (p : Nat → Bool) (a i j : Nat) : cnt (fun x => p (a + x)) i j = cnt p (a + i) (a + j) := by
  unfold cnt
  rw [cntTo_shift p a i, cntTo_shift p a j]; omega
theorem cnt_congr {p q : Nat → Bool} {i j : Nat} (h : ∀ x, i ≤ x → x < j → p x = q x) : cnt p i j = cnt q i j := by
  by_cases hij : i ≤ j
  · obtain ⟨k, rfl⟩ : ∃ k, j = i + k := ⟨j - i, by omega⟩
    unfold cnt
    rw [cntTo_shift p i k, cntTo_shift q i k, cntTo_congr (p := fun x => p (i + x)) (q := fun x => q (i + x)) (fun x hx => h _ (by omega) (by omega))]
    omega
  · have h1 := cnt_le p i j
    have h2 := cnt_le q i j
    omega
theorem cnt_false {p : Nat → Bool} {i j : Nat} (h : ∀ x, i ≤ x → x < j → p x = false) : cnt p i j = 0 := by
  rw [cnt_congr (q := fun _ => false) h]
  unfold cnt
  rw [cntTo_false (fun _ _ => rfl), cntTo_false (fun _ _ => rfl)]
theorem cnt_step (p : Nat → Bool) {i j : Nat} (h : i ≤ j) : cnt p i (j + 1) = cnt p i j + if p j then 1 else 0 := by
  unfold cnt
  have := cntTo_mono p h
  simp only [cntTo]; omega

/-- the truth at a place of a row; false behind it -/
def bit (bs : List Bool) (i : Nat) : Bool := bs.getD i false

theorem bit_out {bs : List Bool} {i : Nat} (h : bs.length ≤ i) : bit bs i = false := by
  unfold bit; rw [List.getD_eq_getElem?_getD, List.getElem?_eq_none h]; rfl
theorem bit_in {bs : List Bool} {i : Nat} {b : Bool} (h : bs[i]? = some b) : bit bs i = b := by
  unfold bit; rw [List.getD_eq_getElem?_getD, h]; rfl

/-- which words of a form are pointers, counted from its beginning -/
inductive Fm where
  | none
  | place (bs : List Bool)
  | things (bs : List Bool) (n : Nat)

def Fm.at : Fm → Nat → Bool
  | .none, _ => false
  | .place bs, i => bit bs i
  | .things bs n, i => decide (i / bs.length < n) && bit bs (i % bs.length)

/-- how many stand ahead of a word of so many things -/
def below (bs : List Bool) (n i : Nat) : Nat := if n ≤ i / bs.length then n * cntTo (bit bs) bs.length else i / bs.length * cntTo (bit bs) bs.length + cntTo (bit bs) (i % bs.length)

theorem div_mod_succ (i l : Nat) (hl : 0 < l) : (i % l + 1 < l ∧ (i + 1) / l = i / l ∧ (i + 1) % l = i % l + 1) ∨ (i % l + 1 = l ∧ (i + 1) / l = i / l + 1 ∧ (i + 1) % l = 0) := by
  have h1 := Nat.div_add_mod i l
  have h2 := Nat.mod_lt i hl
  by_cases h : i % l + 1 < l
  · left
    have e : i + 1 = (i % l + 1) + l * (i / l) := by omega
    refine ⟨h, ?_, ?_⟩
    · conv => lhs; rw [e]
      rw [Nat.add_mul_div_left _ _ hl, Nat.div_eq_of_lt h]; omega
    · conv => lhs; rw [e]
      rw [Nat.add_mul_mod_self_left, Nat.mod_eq_of_lt h]
  · right
    have h3 : i % l + 1 = l := by omega
    have e : i + 1 = 0 + l * (i / l + 1) := by rw [Nat.mul_add]; omega
    refine ⟨h3, ?_, ?_⟩
    · conv => lhs; rw [e]
      rw [Nat.add_mul_div_left _ _ hl]; simp
    · conv => lhs; rw [e]
      rw [Nat.add_mul_mod_self_left]; simp

theorem below_eq {bs : List Bool} (hl : 0 < bs.length) (n : Nat) (i : Nat) : cntTo (Fm.at (.things bs n)) i = below bs n i := by
  induction i with
  | zero =>
    unfold below
    simp only [cntTo, Nat.zero_div, Nat.zero_mod]
    split
    · have : n = 0 := by omega
      subst this; simp
    · simp
  | succ i ih =>
    simp only [cntTo, Fm.at]
    rw [ih]
    unfold below
    rcases div_mod_succ i bs.length hl with ⟨h1, h2, h3⟩ | ⟨h1, h2, h3⟩
    · rw [h2, h3]
      by_cases hn : n ≤ i / bs.length
      · rw [if_pos hn, if_pos hn]
        have : decide (i / bs.length < n) = false := by simp; omega
        simp [this]
      · rw [if_neg hn, if_neg hn]
        have : decide (i / bs.length < n) = true := by simp; omega
        simp only [this, Bool.true_and, cntTo]; omega
    · rw [h2, h3]
      have hc : cntTo (bit bs) bs.length = cntTo (bit bs) (i % bs.length) + if bit bs (i % bs.length) then 1 else 0 := by
        conv => lhs; rw [← h1]
        rfl
      by_cases hn : n ≤ i / bs.length
      · rw [if_pos hn, if_pos (by omega)]
        have : decide (i / bs.length < n) = false := by simp; omega
        simp [this]
      · have : decide (i / bs.length < n) = true := by simp; omega
        rw [if_neg hn]
        simp only [this, Bool.true_and]
        by_cases hn2 : n ≤ i / bs.length + 1
        · rw [if_pos hn2]
          have e : n = i / bs.length + 1 := by omega
          rw [e, Nat.add_mul, Nat.one_mul, hc]; omega
        · rw [if_neg hn2]
          simp only [cntTo]
          rw [Nat.add_mul, Nat.one_mul, hc]; omega

theorem below_mono (bs : List Bool) (hl : 0 < bs.length) (n : Nat) {i j : Nat} (h : i ≤ j) : below bs n i ≤ below bs n j := by
  rw [← below_eq hl, ← below_eq hl]; exact cntTo_mono _ h

/-- some words, with a form that begins at origin -/
structure Pc where
  from_ : Nat
  to_ : Nat
  origin : Nat
  f : Fm

def Pc.has (x : Pc) (word : Nat) : Bool := decide (x.from_ ≤ word) && decide (word < x.to_) && x.f.at (word - x.origin)

/-- is a word a pointer? -/
def sem (P : List Pc) (word : Nat) : Bool := P.any (fun x => x.has word)

/-- rising, none empty, all within the addresses -/
structure Rows (P : List Pc) : Prop where
  ord : P.Pairwise (fun x y => x.to_ ≤ y.from_)
  ok : ∀ x ∈ P, x.from_ < x.to_ ∧ x.origin ≤ x.from_ ∧ x.to_ ≤ 35184372088832

/-- a new piece in place of all that was there -/
def cutL (a : Nat) (x : Pc) : List Pc := if x.from_ < a then [⟨x.from_, a, x.origin, x.f⟩] else []
def cutR (b : Nat) (x : Pc) : List Pc := if b < x.to_ then [⟨b, x.to_, x.origin, x.f⟩] else []
def newPc (a b : Nat) : Fm → List Pc
  | .none => []
  | f => [⟨a, b, a, f⟩]

/-- what put leaves: pre ends ahead of a, mid overlaps, post begins behind -/
def putPcs (pre mid post : List Pc) (a b : Nat) (f : Fm) : List Pc := pre ++ mid.flatMap (cutL a) ++ newPc a b f ++ mid.flatMap (cutR b) ++ post

theorem any_false {α : Type} {l : List α} {p : α → Bool} (h : ∀ x ∈ l, p x = false) : l.any p = false := by
  rw [List.any_eq_false]; intro x hx; rw [h x hx]; simp

theorem sem_put {pre mid post : List Pc} {a b : Nat} {f : Fm} (hab : a < b) (hpre : ∀ x ∈ pre, x.to_ ≤ a) (hmid : ∀ x ∈ mid, a < x.to_ ∧ x.from_ < b) (hpost : ∀ x ∈ post, b ≤ x.from_) (word : Nat) :
    sem (putPcs pre mid post a b f) word = if a ≤ word ∧ word < b then f.at (word - a) else sem (pre ++ mid ++ post) word := by
  unfold sem putPcs
  simp only [List.any_append]
  by_cases h : a ≤ word ∧ word < b
  · rw [if_pos h]
    have e1 : pre.any (fun x => x.has word) = false := any_false (fun x hx => by
      have h1 := hpre x hx
      have : decide (word < x.to_) = false := by simp; omega
      unfold Pc.has; simp [this])
    have e2 : post.any (fun x => x.has word) = false := any_false (fun x hx => by
      have h1 := hpost x hx
      have : decide (x.from_ ≤ word) = false := by simp; omega
      unfold Pc.has; simp [this])
    have e3 : (mid.flatMap (cutL a)).any (fun x => x.has word) = false := any_false (fun x hx => by
      obtain ⟨y, hy, hxy⟩ := List.mem_flatMap.1 hx
      unfold cutL at hxy
      split at hxy
      · simp only [List.mem_singleton] at hxy; subst hxy
        have : decide (word < a) = false := by simp; omega
        unfold Pc.has; simp [this]
      · simp at hxy)
    have e4 : (mid.flatMap (cutR b)).any (fun x => x.has word) = false := any_false (fun x hx => by
      obtain ⟨y, hy, hxy⟩ := List.mem_flatMap.1 hx
      unfold cutR at hxy
      split at hxy
      · simp only [List.mem_singleton] at hxy; subst hxy
        have : decide (b ≤ word) = false := by simp; omega
        unfold Pc.has; simp [this]
      · simp at hxy)
    rw [e1, e2, e3, e4]
    simp only [Bool.false_or, Bool.or_false]
    cases f with
    | none => rfl
    | place bs => simp [newPc, Pc.has, h.1, h.2]
    | things bs n => simp [newPc, Pc.has, h.1, h.2]
  · rw [if_neg h]
    have e5 : (newPc a b f).any (fun x => x.has word) = false := any_false (fun x hx => by
      have : x.from_ = a ∧ x.to_ = b := by
        cases f <;> simp [newPc] at hx <;> simp [hx]
      unfold Pc.has
      rw [this.1, this.2]
      by_cases h1 : a ≤ word
      · have : decide (word < b) = false := by simp; omega
        simp [this]
      · have : decide (a ≤ word) = false := by simp; omega
        simp [this])
    have e6 : ((mid.flatMap (cutL a)).any (fun x => x.has word) || (mid.flatMap (cutR b)).any (fun x => x.has word)) = mid.any (fun x => x.has word) := by
      clear hpre hpost e5
      induction mid with
      | nil => rfl
      | cons y mid ih =>
        have ih := ih (fun x hx => hmid x (by simp [hx]))
        have hy := hmid y (by simp)
        simp only [List.flatMap_cons, List.any_append, List.any_cons]
        rw [← ih]
        have e : ((cutL a y).any (fun x => x.has word) || (cutR b y).any (fun x => x.has word)) = y.has word := by
          unfold cutL cutR
          by_cases h1 : word < a
          · have hb : decide (b ≤ word) = false := by simp; omega
            have l1 : (if b < y.to_ then [(⟨b, y.to_, y.origin, y.f⟩ : Pc)] else []).any (fun x => x.has word) = false := by
              split
              · simp [Pc.has, hb]
              · rfl
            rw [l1, Bool.or_false]
            by_cases h2 : y.from_ < a
            · rw [if_pos h2]
              have : decide (word < y.to_) = true := by simp; omega
              simp [Pc.has, h1, this]
            · rw [if_neg h2]
              have : decide (y.from_ ≤ word) = false := by simp; omega
              simp [Pc.has, this]
          · have h3 : b ≤ word := by omega
            have l1 : (if y.from_ < a then [(⟨y.from_, a, y.origin, y.f⟩ : Pc)] else []).any (fun x => x.has word) = false := by
              split
              · simp [Pc.has, h1]
              · rfl
            rw [l1, Bool.false_or]
            by_cases h2 : b < y.to_
            · rw [if_pos h2]
              have : decide (y.from_ ≤ word) = true := by simp; omega
              simp [Pc.has, h3, this]
            · rw [if_neg h2]
              have : decide (word < y.to_) = false := by simp; omega
              simp [Pc.has, this]
        rw [← e]
        cases (cutL a y).any (fun x => x.has word) <;> cases (cutR b y).any (fun x => x.has word) <;> simp
    rw [e5, ← e6]
    simp only [Bool.or_false]
    cases pre.any (fun x => x.has word) <;> cases (mid.flatMap (cutL a)).any (fun x => x.has word) <;> simp

theorem Rows.put {pre mid post : List Pc} {a b : Nat} {f : Fm} (h : Rows (pre ++ mid ++ post)) (hab : a < b) (hb : b ≤ 35184372088832) (hpre : ∀ x ∈ pre, x.to_ ≤ a) (hmid : ∀ x ∈ mid, a < x.to_ ∧ x.from_ < b) (hpost : ∀ x ∈ post, b ≤ x.from_) :
    Rows (putPcs pre mid post a b f) := by
  have ord := h.ord
  have ok := h.ok
  rw [List.pairwise_append, List.pairwise_append] at ord
  obtain ⟨⟨o1, o2, o3⟩, o4, o5⟩ := ord
  have hL : ∀ x ∈ mid.flatMap (cutL a), ∃ y ∈ mid, y.from_ < a ∧ x = ⟨y.from_, a, y.origin, y.f⟩ := fun x hx => by
    obtain ⟨y, hy, hxy⟩ := List.mem_flatMap.1 hx
    unfold cutL at hxy
    split at hxy
    · simp only [List.mem_singleton] at hxy; exact ⟨y, hy, by assumption, hxy⟩
    · simp at hxy
  have hR : ∀ x ∈ mid.flatMap (cutR b), ∃ y ∈ mid, b < y.to_ ∧ x = ⟨b, y.to_, y.origin, y.f⟩ := fun x hx => by
    obtain ⟨y, hy, hxy⟩ := List.mem_flatMap.1 hx
    unfold cutR at hxy
    split at hxy
    · simp only [List.mem_singleton] at hxy; exact ⟨y, hy, by assumption, hxy⟩
    · simp at hxy
  have hN : ∀ x ∈ newPc a b f, x.from_ = a ∧ x.to_ = b ∧ x.origin = a := fun x hx => by
    cases f <;> simp [newPc] at hx <;> simp [hx]
  have pL : (mid.flatMap (cutL a)).Pairwise (fun x y => x.to_ ≤ y.from_) := by
    clear hL hR
    induction mid with
    | nil => simp
    | cons y mid ih =>
      have hp := List.pairwise_cons.1 o2
      rw [List.flatMap_cons, List.pairwise_append]
      refine ⟨?_, ih (by
        refine ⟨?_, fun x hx => h.ok x (by simp at hx ⊢; rcases hx with h | h | h <;> simp [h])⟩
        rw [List.pairwise_append, List.pairwise_append]
        exact ⟨⟨o1, hp.2, fun x hx z hz => o3 x hx z (by simp [hz])⟩, o4, fun x hx z hz => o5 x (by simp at hx ⊢; rcases hx with h | h <;> simp [h]) z hz⟩) (fun x hx => hmid x (by simp [hx])) (fun x hx => ok x (by simp at hx ⊢; rcases hx with h | h | h <;> simp [h])) hp.2 (fun x hx z hz => o3 x hx z (by simp [hz])) (fun x hx z hz => o5 x (by simp at hx ⊢; rcases hx with h | h <;> simp [h]) z hz), fun x hx z hz => ?_⟩
      · unfold cutL; split <;> simp
      · obtain ⟨u, hu, hzu⟩ := List.mem_flatMap.1 hz
        unfold cutL at hzu hx
        split at hzu
        · rename_i h1
          have h2 := hp.1 u hu
          have h3 := hmid y (by simp)
          omega
        · simp at hzu
  have pR : (mid.flatMap (cutR b)).Pairwise (fun x y => x.to_ ≤ y.from_) := by
    clear hL hR pL
    induction mid with
    | nil => simp
    | cons y mid ih =>
      have hp := List.pairwise_cons.1 o2
      rw [List.flatMap_cons, List.pairwise_append]
      refine ⟨?_, ih (by
        refine ⟨?_, fun x hx => h.ok x (by simp at hx ⊢; rcases hx with h | h | h <;> simp [h])⟩
        rw [List.pairwise_append, List.pairwise_append]
        exact ⟨⟨o1, hp.2, fun x hx z hz => o3 x hx z (by simp [hz])⟩, o4, fun x hx z hz => o5 x (by simp at hx ⊢; rcases hx with h | h <;> simp [h]) z hz⟩) (fun x hx => hmid x (by simp [hx])) (fun x hx => ok x (by simp at hx ⊢; rcases hx with h | h | h <;> simp [h])) hp.2 (fun x hx z hz => o3 x hx z (by simp [hz])) (fun x hx z hz => o5 x (by simp at hx ⊢; rcases hx with h | h <;> simp [h]) z hz), fun x hx z hz => ?_⟩
      · unfold cutR; split <;> simp
      · obtain ⟨u, hu, hzu⟩ := List.mem_flatMap.1 hz
        unfold cutR at hzu hx
        split at hx
        · rename_i h1
          have h2 := hp.1 u hu
          have h3 := hmid u (by simp [hu])
          omega
        · simp at hx
  have hpa : ∀ x ∈ pre, x.from_ < x.to_ ∧ x.origin ≤ x.from_ ∧ x.to_ ≤ 35184372088832 := fun x hx => ok x (by simp [hx])
  have hma : ∀ x ∈ mid, x.from_ < x.to_ ∧ x.origin ≤ x.from_ ∧ x.to_ ≤ 35184372088832 := fun x hx => ok x (by simp [hx])
  have hqa : ∀ x ∈ post, x.from_ < x.to_ ∧ x.origin ≤ x.from_ ∧ x.to_ ≤ 35184372088832 := fun x hx => ok x (by simp [hx])
  refine ⟨?_, fun x hx => ?_⟩
  · unfold putPcs
    rw [List.pairwise_append, List.pairwise_append, List.pairwise_append, List.pairwise_append]
    refine ⟨⟨⟨⟨o1, pL, fun x hx z hz => ?_⟩, ?_, fun x hx z hz => ?_⟩, pR, fun x hx z hz => ?_⟩, o4, fun x hx z hz => ?_⟩
    · obtain ⟨y, hy, _, rfl⟩ := hL z hz; exact o3 x hx y hy
    · cases f <;> simp [newPc]
    · rw [(hN z hz).1]
      rcases List.mem_append.1 hx with hx | hx
      · exact hpre x hx
      · obtain ⟨y, _, _, rfl⟩ := hL x hx; exact Nat.le_refl _
    · obtain ⟨y, _, _, rfl⟩ := hR z hz
      rcases List.mem_append.1 hx with hx | hx
      · rcases List.mem_append.1 hx with hx | hx
        · have := hpre x hx; simp only; omega
        · obtain ⟨u, _, _, rfl⟩ := hL x hx; simp only; omega
      · rw [(hN x hx).2.1]; exact Nat.le_refl _
    · rcases List.mem_append.1 hx with hx | hx
      · rcases List.mem_append.1 hx with hx | hx
        · rcases List.mem_append.1 hx with hx | hx
          · exact o5 x (by simp [hx]) z hz
          · obtain ⟨u, _, _, rfl⟩ := hL x hx; have := hpost z hz; simp only; omega
        · rw [(hN x hx).2.1]; exact hpost z hz
      · obtain ⟨u, hu, _, rfl⟩ := hR x hx; exact o5 u (by simp [hu]) z hz
  · unfold putPcs at hx
    rcases List.mem_append.1 hx with hx | hx
    · rcases List.mem_append.1 hx with hx | hx
      · rcases List.mem_append.1 hx with hx | hx
        · rcases List.mem_append.1 hx with hx | hx
          · exact hpa x hx
          · obtain ⟨u, hu, hua, rfl⟩ := hL x hx; have := hma u hu; exact ⟨hua, this.2.1, by simp only; omega⟩
        · have := hN x hx; omega
      · obtain ⟨u, hu, hub, rfl⟩ := hR x hx; have h1 := hma u hu; have h2 := hmid u hu; exact ⟨hub, by simp only; omega, h1.2.2⟩
    · exact hqa x hx
end Go.Proofs.Ytcnnibhipjkgiaa
