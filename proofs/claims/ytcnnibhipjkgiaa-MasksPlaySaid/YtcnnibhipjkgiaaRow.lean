/-
  Rows of one's own: appended to, cut. No program in sight.
-/
import Derived.Test.YtcnnibhipjkgiaaMem
namespace Go.Proofs.Ytcnnibhipjkgiaa
open Go.RowKit

theorem ownsRow_prefix {w : World} {B T sz n c : Nat} {a : Option Addr} {xs : List Value} (h : w.ownsRow B T sz (.slice a n c) n xs) {k : Nat} (hk : k ≤ n) : w.ownsRow B T sz (.slice a k c) k (xs.take (k * sz)) := by
  have hle : k * sz ≤ n * sz := Nat.mul_le_mul_right _ hk
  rcases h with ⟨hl, h | ⟨g, cap, cur, hv, hg, hb, hn, hcm, hcs, ht⟩⟩
  · obtain ⟨hv, rfl⟩ := h
    simp only [Value.slice.injEq] at hv
    obtain ⟨rfl, _, rfl⟩ := hv
    have : k = 0 := by omega
    subst this
    exact ⟨by simp, .inl ⟨rfl, rfl⟩⟩
  · simp only [Value.slice.injEq] at hv
    obtain ⟨rfl, _, rfl⟩ := hv
    refine ⟨by rw [List.length_take]; omega, .inr ⟨g, c, cur, rfl, hg, hb, by omega, hcm, hcs, ?_⟩⟩
    rw [← ht, List.take_take]
    congr 1; omega

/-- what is appended stands behind; the row's block is what it was, or new -/
theorem run_append_row {P : Program} {w : World} (t ty e : TypeId) (i : TypeInfo) (z : Value) (size bytes : Nat) (ht : P.underlying t = some (.slice e)) (hi : P.info? e = some i) (hz : i.zero = some z)
    (hsize : i.size = size) (hby : i.bytes = bytes) (hzs : z.cells.size = size) (hsz : 0 < size)
    (v : Value) (n : Nat) (xs : List Value) (hown : w.ownsRow 0 e size v n xs)
    (u : Value) (m : Nat) (news : List Value) (hrd : Rd w size u m news) (h1 : ∀ u ∈ news, u.oneCell' = true)
    (h63 : n + m ≤ maxLen) (hbytes : (n + m) * bytes ≤ 140737488355328) :
    ∃ v' w', (Builtin.append_ #[t, t] ty #[v, u]).run P w = .ok v' w' ∧ w'.ownsRow 0 e size v' (n + m) (xs ++ news) ∧ Fr (fun b => some b = v.ownBlock) w w' ∧
      ∀ g, v'.ownBlock = some g → v.ownBlock = some g ∨ w.heap.size ≤ g := by
  obtain ⟨ad, c, rfl, hmc, hl, hnone, hcells⟩ := hrd
  cases ad with
  | none =>
    have hc := hnone rfl
    have hm : m = 0 := by omega
    subst hc hm
    have hnews : news = [] := List.eq_nil_of_length_eq_zero (by simpa using hl)
    subst hnews
    exact ⟨v, w, run_append_owned_none (P := P) (w := w) 0 t ty e i size ht hi v n xs hown, by simpa using hown, Fr.refl _ _, fun g hg => .inl hg⟩
  | some ad =>
    have hnews : ∀ (j : Nat) (u : Value), news[j]? = some u → w.cell? (ad.add j) = some u := fun j u hu => by obtain ⟨ad', he, hc⟩ := hcells j u hu; cases he; exact hc
    obtain ⟨v', w', hr, h2, h3, h4⟩ := run_append_own (P := P) w 0 t ty e i z size bytes ht hi hz hsize hby hzs hsz v n xs hown ad m c news hl hnews h1 h63 hbytes (Nat.zero_le _)
    refine ⟨v', w', hr, h2, Fr.grownBy h3, fun g hg => ?_⟩
    have hml : n + m ≤ 9223372036854775807 := by simp only [maxLen] at h63; omega
    subst hsize hby
    rcases hown with ⟨hxl, hn | ⟨g0, cap, cur, rfl, _, hb, hnc, hcm, hcs, htk⟩⟩
    · obtain ⟨rfl, rfl⟩ := hn
      by_cases hm : m = 0
      · have := h4.2 ⟨rfl, hm⟩
        rw [this] at hg; simp [Value.ownBlock] at hg
      · have hr' := run_append_nil (P := P) w t ty e i z ht hi hz ad m c news hl hnews (by omega) (by omega) (by simp only [Nat.zero_add] at hbytes; omega)
        rw [hr'] at hr
        simp only [Result.ok.injEq] at hr
        rw [← hr.1] at hg
        simp only [Value.ownBlock, Option.some.injEq] at hg
        exact .inr (by omega)
    · by_cases hroom : n + m ≤ cap
      · have hr' := run_append_room (P := P) w t ty e i ht hi g0 n cap cur hb ad m c news hl hnews h1 hroom (by rw [hl, hcs, ← Nat.add_mul]; exact Nat.mul_le_mul_right _ hroom)
        rw [hr'] at hr
        simp only [Result.ok.injEq] at hr
        rw [← hr.1] at hg
        exact .inl hg
      · have holds : ∀ (j : Nat) (u : Value), xs[j]? = some u → w.cell? ((⟨g0, 0, none⟩ : Addr).add j) = some u :=
          World.ownsRow.cells (base := 0) (e := e) (size := i.size) (v := .slice (some ⟨g0, 0, none⟩) n cap) (n := n) ⟨hxl, .inr ⟨g0, cap, cur, rfl, Nat.zero_le _, hb, hnc, hcm, hcs, htk⟩⟩ rfl
        have hr' := run_append_grow (P := P) w t ty e i z ht hi hz ⟨g0, 0, none⟩ n cap xs hxl holds ad m c news hl hnews (by omega) (by omega) (growslice_fits (by omega) hbytes)
        rw [hr'] at hr
        simp only [Result.ok.injEq] at hr
        rw [← hr.1] at hg
        simp only [Value.ownBlock, Option.some.injEq] at hg
        exact .inr (by omega)

/-- x[k:], as it runs -/
theorem run_from {P : Program} (t e : TypeId) (i : TypeInfo) (ht : P.underlying t = some (.slice e)) (hi' : P.info? e = some i) (sz : Nat) (hsz : i.size = sz) (ad : Option Addr) (n c : Nat) (kk : IntKind) (k : Nat) (hkn : k ≤ n) (_ : n ≤ c) :
    ∀ w : World, (Instr.slice t (.slice ad n c) (some (.int kk (k : Int))) none none).run P w = .ok (sliced ad k n c sz) w := by
  intro w
  have he : P.elem t = e := by simp [Program.elem, ht]
  rw [run_slice_l (P := P) (w := w) t ad n c (by rw [he]; exact ht) kk k (by omega) (by omega)]
  simp [sizeOf, typeInfo, he, hi', hsz, Result.andThen]

theorem wp_append_row {P : Program} {w : World} {o : Oper} {a : Act} {K : Act → World → Prop} {Q : Exit → Act → World → Prop} (s x : Operand) (t : TypeId)
    (ho : o.op = .call { callee := .builtin .append, args := #[s, x], argTypes := #[t, t] })
    {v u v' : Value} {w' : World} (hs : a.eval s = v) (hx : a.eval x = u) (hr' : (Builtin.append_ #[t, t] o.type #[v, u]).run P w = .ok v' w') (h : K (a.put o.dst v') w') : o.wp P a w K Q := by
  unfold Oper.wp
  simp only [execOp, ho, resolve, invoke, builtin, hs, hx, List.map_toArray, List.map_cons, List.map_nil, Sem.run_bind, hr', Result.andThen, Sem.run_pure, Oper.upon]
  exact h

theorem wp_append_rows {P : Program} {w : World} {o : Oper} {a : Act} {K : Act → World → Prop} {Q : Exit → Act → World → Prop} (s x : Operand) (t : TypeId)
    (ho : o.op = .call { callee := .builtin .append, args := #[s, x], argTypes := #[t, t] })
    (e : TypeId) (i : TypeInfo) (z : Value) (size bytes : Nat) (ht : P.underlying t = some (.slice e)) (hi : P.info? e = some i) (hz : i.zero = some z)
    (hsize : i.size = size) (hby : i.bytes = bytes) (hzs : z.cells.size = size) (hsz : 0 < size)
    (v : Value) (n : Nat) (xs : List Value) (hs : a.eval s = v) (hown : w.ownsRow 0 e size v n xs)
    (u : Value) (m : Nat) (news : List Value) (hx : a.eval x = u) (hrd : Rd w size u m news) (h1 : ∀ u ∈ news, u.oneCell' = true)
    (h63 : n + m ≤ maxLen) (hbytes : (n + m) * bytes ≤ 140737488355328)
    (h : ∀ v' w', w'.ownsRow 0 e size v' (n + m) (xs ++ news) → Fr (fun b => some b = v.ownBlock) w w' → (∀ g, v'.ownBlock = some g → v.ownBlock = some g ∨ w.heap.size ≤ g) → K (a.put o.dst v') w') : o.wp P a w K Q := by
  obtain ⟨v', w', hr, h2, h3, h4⟩ := run_append_row (P := P) (w := w) t o.type e i z size bytes ht hi hz hsize hby hzs hsz v n xs hown u m news hrd h1 h63 hbytes
  exact wp_append_row s x t ho hs hx hr (h v' w' h2 h3 h4)

theorem ownsRow_cap {w : World} {B T sz n c m : Nat} {a : Option Addr} {xs : List Value} (h : w.ownsRow B T sz (.slice a m c) n xs) : n ≤ c := by
  rcases h.2 with ⟨h1, h2⟩ | ⟨g, cap, cur, hv, _, _, h2, _⟩
  · omega
  · simp only [Value.slice.injEq] at hv; omega
end Go.Proofs.Ytcnnibhipjkgiaa
