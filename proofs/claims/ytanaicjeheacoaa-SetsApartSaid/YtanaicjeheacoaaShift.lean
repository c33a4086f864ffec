/-
  Room is made in a row: copy(l[j+1:], l[j:]). No program in sight.
-/
import Derived.Test.YtanaicjeheacoaaRow
import Derived.Laws.CopyRow
import Derived.Laws.IdiomCopy
namespace Go.Proofs.Ytanaicjeheacoaa
open Go.RowKit

theorem run_copy_shift {P : Program} {w : World} (t ty e : TypeId) (ht : P.underlying t = some (.slice e)) (hs : (P.info? e).map (·.size) = some 1) {g n c j : Nat} {xs : List Value}
    (h : w.ownsRow 0 e 1 (.slice (some ⟨g, 0, none⟩) n c) n xs) (hj : j + 1 ≤ n) (h1 : ∀ v ∈ xs, v.oneCell' = true) :
    ∃ w', (Builtin.copy_ #[t, t] ty #[sliced (some ⟨g, 0, none⟩) (j + 1) n c 1, sliced (some ⟨g, 0, none⟩) j n c 1]).run P w = .ok (goInt (n - (j + 1) : Nat)) w' ∧
      w'.ownsRow 0 e 1 (.slice (some ⟨g, 0, none⟩) n c) n (xs.take (j + 1) ++ (xs.drop j).take (n - (j + 1))) ∧ Fr (fun b => b = g) w w' := by
  have h0 := h
  obtain ⟨hl, ⟨hv, _⟩ | ⟨g', cap, cur, hv, _, hg, hn, hcm, hcs, htk⟩⟩ := h
  · simp at hv
  simp only [Value.slice.injEq, Option.some.injEq, Addr.mk.injEq] at hv
  obtain ⟨⟨rfl, _⟩, _, rfl⟩ := hv
  simp only [Nat.mul_one] at hl hcs htk
  by_cases hjn : j + 1 = n
  · have hr := run_copy_none (P := P) w t t ty e (if c = j + 1 then some ⟨g, 0, none⟩ else (some ⟨g, 0, none⟩ : Option Addr).map (·.add ((j + 1) * 1))) (if c = j then some ⟨g, 0, none⟩ else (some ⟨g, 0, none⟩ : Option Addr).map (·.add (j * 1))) (n - (j + 1)) (c - (j + 1)) (n - j) (c - j) ht hs (by rw [show n - (j + 1) = 0 by omega]; exact Nat.min_zero _)
    refine ⟨w, ?_, ?_, Fr.refl _ _⟩
    · unfold sliced
      rw [hr, show n - (j + 1) = 0 by omega]; rfl
    · rw [show n - (j + 1) = 0 by omega, List.take_zero, List.append_nil, hjn, List.take_of_length_le (by omega)]
      exact h0
  · have e1 : sliced (some ⟨g, 0, none⟩) (j + 1) n c 1 = .slice (some ⟨g, j + 1, none⟩) (n - (j + 1)) (c - (j + 1)) := by
      unfold sliced; rw [if_neg (by omega)]; simp [Addr.add]
    have e2 : ∃ a, sliced (some ⟨g, 0, none⟩) j n c 1 = .slice (some a) (n - j) (c - j) ∧ ∀ i, a.add i = ⟨g, j + i, none⟩ := by
      unfold sliced
      rw [if_neg (by omega)]
      exact ⟨_, rfl, fun i => by by_cases h1 : j = 0 <;> by_cases h2 : i = 0 <;> simp [Addr.add, h1, h2]⟩
    obtain ⟨ad, e2, hadd⟩ := e2
    have hcl : ((xs.drop j).take (n - (j + 1))).length = n - (j + 1) := by simp; omega
    have hr := run_copy_row (P := P) w t t ty e g (j + 1) (n - (j + 1)) (c - (j + 1)) ad (n - j) (c - j) cur e ((xs.drop j).take (n - (j + 1))) ht hs hg
      (by rw [hcl]; exact (Nat.min_eq_right (by omega)).symm)
      (fun i v hi => by
        rw [hadd, cell_blk hg]
        rw [List.getElem?_take] at hi
        split at hi
        · rw [List.getElem?_drop, ← htk, List.getElem?_take] at hi
          split at hi
          · simpa using hi
          · simp at hi
        · simp at hi)
      (by rw [hcl]; omega) (fun v hv => h1 v (List.mem_of_mem_drop (List.mem_of_mem_take hv)))
    refine ⟨_, by rw [e1, e2, hr, hcl], ⟨?_, .inr ⟨g, c, _, rfl, Nat.zero_le _, setRow_heap w g cur _ e _ hg, hn, hcm, ?_, ?_⟩⟩, ⟨rfl, rfl, rfl, by simp, fun k _ hk => setRow_other w g k _ hk⟩⟩
    · simp only [List.length_append, List.length_take, List.length_drop]; omega
    · simp only [List.size_toArray, List.length_append, List.length_take, List.length_drop, Array.length_toList, hcl]; omega
    · simp only [Nat.mul_one]
      have hlen : (xs.take (j + 1) ++ (xs.drop j).take (n - (j + 1))).length = n := by simp only [List.length_append, List.length_take, List.length_drop]; omega
      have hx : cur.toList.take (j + 1) = xs.take (j + 1) := by rw [← htk, List.take_take, Nat.min_eq_left (by omega)]
      rw [hx]
      exact List.take_left' hlen

theorem ownsRow_set {w : World} {e g n c j : Nat} {xs : List Value} (h : w.ownsRow 0 e 1 (.slice (some ⟨g, 0, none⟩) n c) n xs) (hj : j < n) (v : Value) :
    (w.setCell ⟨g, j, none⟩ v).ownsRow 0 e 1 (.slice (some ⟨g, 0, none⟩) n c) n (xs.set j v) := by
  obtain ⟨hl, ⟨hv, _⟩ | ⟨g', cap, cur, hv, _, hg, hn, hcm, hcs, htk⟩⟩ := h
  · simp at hv
  simp only [Value.slice.injEq, Option.some.injEq, Addr.mk.injEq] at hv
  obtain ⟨⟨rfl, _⟩, _, rfl⟩ := hv
  refine ⟨by simpa using hl, .inr ⟨g, c, cur.setIfInBounds j v, rfl, Nat.zero_le _, heap_setCell_at hg, hn, hcm, by simpa using hcs, ?_⟩⟩
  simp only [Nat.mul_one] at htk ⊢
  rw [Array.toList_setIfInBounds, ← htk, List.take_set]

theorem wp_copy_run {P : Program} {w : World} {o : Oper} {a : Act} {K : Act → World → Prop} {Q : Exit → Act → World → Prop} (d s : Operand) (t : TypeId)
    (ho : o.op = .call { callee := .builtin .copy, args := #[d, s], argTypes := #[t, t] })
    {v u r : Value} {w' : World} (hs : a.eval d = v) (hx : a.eval s = u) (hr' : (Builtin.copy_ #[t, t] o.type #[v, u]).run P w = .ok r w') (h : K (a.put o.dst r) w') : o.wp P a w K Q := by
  unfold Oper.wp
  simp only [execOp, ho, resolve, invoke, builtin, hs, hx, List.map_toArray, List.map_cons, List.map_nil, Sem.run_bind, hr', Result.andThen, Sem.run_pure, Oper.upon]
  exact h
end Go.Proofs.Ytanaicjeheacoaa
