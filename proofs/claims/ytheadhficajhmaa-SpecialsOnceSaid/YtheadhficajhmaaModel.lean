/-
  Plain facts about rows of records in order. No program.
-/
import Derived.Test.YtheadhficajhmaaRef4
namespace Go.Proofs.Ytheadhficajhmaa
namespace Sp

def rlt (r q : Rec) : Prop := r.a < q.a ∨ (r.a = q.a ∧ r.k < q.k)

/-- in order, of the three kinds -/
structure Ok (l : List Rec) : Prop where
  ord : l.Pairwise rlt
  kind : ∀ r ∈ l, 1 ≤ r.k ∧ r.k ≤ 3

theorem Ok.nil : Ok [] := ⟨List.Pairwise.nil, by simp⟩
theorem Ok.sub {l l' : List Rec} (h : Ok l) (hs : l'.Sublist l) : Ok l' := ⟨h.ord.sublist hs, fun r hr => h.kind r (hs.subset hr)⟩

theorem lt_iff {a k : Int} {r : Rec} : lt a k r = true ↔ r.a < a ∨ (r.a = a ∧ r.k < k) := by simp [lt]
theorem lt_false {a k : Int} {r : Rec} : lt a k r = false ↔ a < r.a ∨ (r.a = a ∧ k ≤ r.k) := by
  rw [← Bool.not_eq_true, lt_iff]; omega

theorem split (l : List Rec) (a k : Int) : l = l.takeWhile (lt a k) ++ l.dropWhile (lt a k) := List.takeWhile_append_dropWhile.symm
theorem split_lt (l : List Rec) (a k : Int) : ∀ x ∈ l.takeWhile (lt a k), lt a k x = true := by
  intro x hx
  induction l with
  | nil => simp at hx
  | cons y l ih =>
    by_cases hy : lt a k y = true
    · rw [List.takeWhile_cons_of_pos hy] at hx
      rcases List.mem_cons.1 hx with rfl | hx
      · exact hy
      · exact ih hx
    · rw [List.takeWhile_cons_of_neg hy] at hx; simp at hx
theorem split_head (l : List Rec) (a k : Int) : ∀ y z, l.dropWhile (lt a k) = y :: z → lt a k y = false := by
  intro y z h
  induction l with
  | nil => simp at h
  | cons x l ih =>
    by_cases hx : lt a k x = true
    · rw [List.dropWhile_cons_of_pos hx] at h; exact ih h
    · rw [List.dropWhile_cons_of_neg hx] at h
      obtain ⟨rfl, _⟩ := List.cons.inj h
      simpa using hx

/-- behind a head that is not ahead, none is -/
theorem Ok.tail {xs ys : List Rec} {a k : Int} (h : Ok (xs ++ ys)) (hy : ∀ y z, ys = y :: z → lt a k y = false) : ∀ y ∈ ys, lt a k y = false := by
  intro y hm
  cases ys with
  | nil => simp at hm
  | cons q ys =>
    have hq := hy q ys rfl
    rcases List.mem_cons.1 hm with rfl | hm
    · exact hq
    · have hp : rlt q y := by
        have := (List.pairwise_append.1 h.ord).2.1
        exact (List.pairwise_cons.1 this).1 y hm
      rw [lt_false] at hq ⊢
      unfold rlt at hp
      omega

theorem Ok.ins {xs ys : List Rec} {q : Rec} (h : Ok (xs ++ ys)) (hx : ∀ x ∈ xs, lt q.a q.k x = true) (hy : ∀ y z, ys = y :: z → lt q.a q.k y = false) (hh : isHd ys q.a q.k = false) (hk : 1 ≤ q.k ∧ q.k ≤ 3) :
    Ok (xs ++ q :: ys) := by
  have hall := h.tail hy
  refine ⟨?_, ?_⟩
  · have ho := h.ord
    rw [List.pairwise_append] at ho ⊢
    obtain ⟨h1, h2, h3⟩ := ho
    refine ⟨h1, List.pairwise_cons.2 ⟨fun y hm => ?_, h2⟩, fun x hm y hn => ?_⟩
    · cases ys with
      | nil => simp at hm
      | cons p ys =>
        have hp := hy p ys rfl
        have : rlt q p := by
          rw [lt_false] at hp
          simp only [isHd, Bool.and_eq_false_iff, beq_eq_false_iff_ne] at hh
          unfold rlt; omega
        rcases List.mem_cons.1 hm with rfl | hm
        · exact this
        · have := (List.pairwise_cons.1 h2).1 y hm
          unfold rlt at *; omega
    · rcases List.mem_cons.1 hn with rfl | hn
      · have := lt_iff.1 (hx x hm); unfold rlt; omega
      · exact h3 x hm y hn
  · intro r hr
    rcases List.mem_append.1 hr with hr | hr
    · exact h.kind r (by simp [hr])
    · rcases List.mem_cons.1 hr with rfl | hr
      · exact hk
      · exact h.kind r (by simp [hr])

theorem filter_all {α : Type} {p : α → Bool} {l : List α} (h : ∀ x ∈ l, p x = true) : l.filter p = l := List.filter_eq_self.2 h
theorem filter_no {α : Type} {p : α → Bool} {l : List α} (h : ∀ x ∈ l, p x = false) : l.filter p = [] := List.filter_eq_nil_iff.2 (fun x hx => by simp [h x hx])

/-- those of an address -/
theorem Ok.of {l xs ys : List Rec} {a : Int} (h : Ok l) (hl : l = xs ++ ys) (hx : ∀ x ∈ xs, lt a 0 x = true) (hy : ∀ y z, ys = y :: z → lt a 0 y = false) :
    l.filter (fun r => r.a == a) = ys.takeWhile (fun r => r.a == a) := by
  subst hl
  have hall := h.tail hy
  rw [List.filter_append, filter_no (l := xs), List.nil_append]
  · have hs : Ok ys := h.sub (List.sublist_append_right xs ys)
    clear h hx hy
    induction ys with
    | nil => rfl
    | cons y ys ih =>
      by_cases hq : (y.a == a) = true
      · rw [List.filter_cons_of_pos (by exact hq), List.takeWhile_cons_of_pos (by exact hq), ih (fun z hz => hall z (by simp [hz])) (hs.sub (List.sublist_cons_self _ _))]
      · rw [List.filter_cons_of_neg (by simpa using hq), List.takeWhile_cons_of_neg (by simpa using hq)]
        refine filter_no fun z hz => ?_
        have h1 := (List.pairwise_cons.1 hs.ord).1 z hz
        have h2 := lt_false.1 (hall y (by simp))
        have h3 : y.a ≠ a := by simpa using hq
        unfold rlt at h1
        simp only [beq_eq_false_iff_ne]; omega
  · intro x hm
    have h1 := lt_iff.1 (hx x hm)
    have h2 := h.kind x (by simp [hm])
    simp only [beq_eq_false_iff_ne]; omega

/-- those of a row of addresses -/
theorem Ok.between {l xs ys : List Rec} {f t : Int} (h : Ok l) (hl : l = xs ++ ys) (hx : ∀ x ∈ xs, lt f 0 x = true) (hy : ∀ y z, ys = y :: z → lt f 0 y = false) :
    l.filter (fun r => decide (f ≤ r.a) && decide (r.a < t)) = ys.takeWhile (fun r => decide (r.a < t)) := by
  subst hl
  have hall := h.tail hy
  rw [List.filter_append, filter_no (l := xs), List.nil_append]
  · have hs : Ok ys := h.sub (List.sublist_append_right xs ys)
    clear h hx hy
    induction ys with
    | nil => rfl
    | cons y ys ih =>
      have hf : f ≤ y.a := by have := lt_false.1 (hall y (by simp)); omega
      by_cases hq : y.a < t
      · rw [List.filter_cons_of_pos (by simp [hq, hf]), List.takeWhile_cons_of_pos (by simp [hq]), ih (fun z hz => hall z (by simp [hz])) (hs.sub (List.sublist_cons_self _ _))]
      · rw [List.filter_cons_of_neg (by simp [hq]), List.takeWhile_cons_of_neg (by simp [hq])]
        refine filter_no fun z hz => ?_
        have h1 := (List.pairwise_cons.1 hs.ord).1 z hz
        unfold rlt at h1
        simp only [Bool.and_eq_false_iff, decide_eq_false_iff_not]; omega
  · intro x hm
    have h1 := lt_iff.1 (hx x hm)
    have h2 := h.kind x (by simp [hm])
    simp only [Bool.and_eq_false_iff, decide_eq_false_iff_not]; omega
end Sp
end Go.Proofs.Ytheadhficajhmaa
