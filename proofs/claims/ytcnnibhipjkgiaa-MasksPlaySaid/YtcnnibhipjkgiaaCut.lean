/-
  What put leaves: plain facts; and two rows of pieces that are appended to.
-/
import Derived.Test.YtcnnibhipjkgiaaOf
namespace Go.Proofs.Ytcnnibhipjkgiaa
open Go.RowKit Go.Deep

def cutLv (a : Nat) (x : PV) : List PV := if x.1.from_ < a then [(⟨x.1.from_, a, x.1.origin, x.1.f⟩, x.2)] else []
def cutRv (b : Nat) (x : PV) : List PV := if b < x.1.to_ then [(⟨b, x.1.to_, x.1.origin, x.1.f⟩, x.2)] else []
def newPv (a b : Nat) (f : Fm) (v : Value) : List PV := (newPc a b f).map (fun x => (x, v))

theorem cutLv_fst (a : Nat) (l : List PV) : (l.flatMap (cutLv a)).map (·.1) = (l.map (·.1)).flatMap (cutL a) := by
  induction l with
  | nil => rfl
  | cons x l ih =>
    rw [List.flatMap_cons, List.map_append, ih, List.map_cons, List.flatMap_cons]
    congr 1
    unfold cutLv cutL; split <;> rfl
theorem cutRv_fst (b : Nat) (l : List PV) : (l.flatMap (cutRv b)).map (·.1) = (l.map (·.1)).flatMap (cutR b) := by
  induction l with
  | nil => rfl
  | cons x l ih =>
    rw [List.flatMap_cons, List.map_append, ih, List.map_cons, List.flatMap_cons]
    congr 1
    unfold cutRv cutR; split <;> rfl
theorem newPv_fst (a b : Nat) (f : Fm) (v : Value) : (newPv a b f v).map (·.1) = newPc a b f := by unfold newPv; cases f <;> simp [newPc]

/-- all that put leaves -/
def putPvs (pre mid post : List PV) (a b : Nat) (f : Fm) (v : Value) : List PV := pre ++ mid.flatMap (cutLv a) ++ newPv a b f v ++ mid.flatMap (cutRv b) ++ post

theorem putPvs_fst (pre mid post : List PV) (a b : Nat) (f : Fm) (v : Value) : (putPvs pre mid post a b f v).map (·.1) = putPcs (pre.map (·.1)) (mid.map (·.1)) (post.map (·.1)) a b f := by
  unfold putPvs putPcs
  simp only [List.map_append, cutLv_fst, cutRv_fst, newPv_fst]

theorem cutLv_len {a : Nat} {d : List PV} (ho : d.Pairwise (fun x y => x.1.to_ ≤ y.1.from_)) (h : ∀ x ∈ d, a < x.1.to_) : (d.flatMap (cutLv a)).length ≤ 1 ∧ (d.flatMap (cutLv a)).length ≤ d.length := by
  cases d with
  | nil => simp
  | cons x d =>
    have hp := List.pairwise_cons.1 ho
    have e : d.flatMap (cutLv a) = [] := by
      rw [List.flatMap_eq_nil_iff]
      intro y hy
      have h1 := hp.1 y hy
      have h2 := h x (by simp)
      unfold cutLv; rw [if_neg (by omega)]
    rw [List.flatMap_cons, e, List.append_nil]
    unfold cutLv; split <;> simp
theorem cutRv_len {b : Nat} {d : List PV} (ho : d.Pairwise (fun x y => x.1.to_ ≤ y.1.from_)) (h : ∀ x ∈ d, x.1.from_ < b) : (d.flatMap (cutRv b)).length ≤ 1 ∧ (d.flatMap (cutRv b)).length ≤ d.length := by
  induction d with
  | nil => simp
  | cons x d ih =>
    have hp := List.pairwise_cons.1 ho
    have ih := ih hp.2 (fun y hy => h y (by simp [hy]))
    rw [List.flatMap_cons]
    cases d with
    | nil => simp; unfold cutRv; split <;> simp
    | cons y d =>
      have h1 := hp.1 y (by simp)
      have h2 := h y (by simp)
      have e : cutRv b x = [] := by unfold cutRv; rw [if_neg (by omega)]
      rw [e, List.nil_append]
      simp only [List.length_cons] at ih ⊢
      omega

theorem putPvs_len {pre mid post : List PV} {a b : Nat} {f : Fm} {v : Value} (ho : mid.Pairwise (fun x y => x.1.to_ ≤ y.1.from_)) (h : ∀ x ∈ mid, a < x.1.to_ ∧ x.1.from_ < b) : (putPvs pre mid post a b f v).length ≤ (pre ++ mid ++ post).length + 2 := by
  have h1 := cutLv_len (a := a) ho (fun x hx => (h x hx).1)
  have h2 := cutRv_len (b := b) ho (fun x hx => (h x hx).2)
  have h3 : (newPv a b f v).length ≤ 1 := by unfold newPv; cases f <;> simp [newPc]
  unfold putPvs
  simp only [List.length_append]
  omega

theorem mem_cutLv {a : Nat} {l : List PV} {x : PV} (h : x ∈ l.flatMap (cutLv a)) : ∃ y ∈ l, x.2 = y.2 ∧ x.1.f = y.1.f := by
  obtain ⟨y, hy, hx⟩ := List.mem_flatMap.1 h
  unfold cutLv at hx
  split at hx
  · simp only [List.mem_singleton] at hx; subst hx; exact ⟨y, hy, rfl, rfl⟩
  · simp at hx
theorem mem_cutRv {b : Nat} {l : List PV} {x : PV} (h : x ∈ l.flatMap (cutRv b)) : ∃ y ∈ l, x.2 = y.2 ∧ x.1.f = y.1.f := by
  obtain ⟨y, hy, hx⟩ := List.mem_flatMap.1 h
  unfold cutRv at hx
  split at hx
  · simp only [List.mem_singleton] at hx; subst hx; exact ⟨y, hy, rfl, rfl⟩
  · simp at hx

/-- every form of what put leaves -/
theorem putPvs_forms {pre mid post : List PV} {a b : Nat} {f : Fm} {v : Value} {x : PV} (h : x ∈ putPvs pre mid post a b f v) : (∃ y ∈ pre ++ mid ++ post, x.2 = y.2 ∧ x.1.f = y.1.f) ∨ (x.2 = v ∧ x.1.f = f) := by
  unfold putPvs at h
  simp only [List.mem_append] at h
  rcases h with (((h | h) | h) | h) | h
  · exact .inl ⟨x, by simp [h], rfl, rfl⟩
  · obtain ⟨y, hy, h1⟩ := mem_cutLv h
    exact .inl ⟨y, by simp [hy], h1⟩
  · right
    unfold newPv at h
    obtain ⟨y, hy, rfl⟩ := List.mem_map.1 h
    cases f <;> simp [newPc] at hy <;> simp [hy]
  · obtain ⟨y, hy, h1⟩ := mem_cutRv h
    exact .inl ⟨y, by simp [hy], h1⟩
  · exact .inl ⟨x, by simp [h], rfl, rfl⟩

theorem owns_keep {S : Nat → Prop} {w w' : World} {T sz n : Nat} {v : Value} {xs : List Value} (h : w.ownsRow 0 T sz v n xs) (hf : Fr S w w') (hS : ∀ g, v.ownBlock = some g → ¬ S g) : w'.ownsRow 0 T sz v n xs := by
  refine ⟨h.1, ?_⟩
  rcases h.2 with h2 | ⟨g, cap, cur, hv, hg, hh, r⟩
  · exact .inl h2
  · exact .inr ⟨g, cap, cur, hv, hg, hf.at hh (hS g (by rw [hv]; rfl)), r⟩

/-- two rows of pieces that the call has made -/
structure Own2 (w0 w : World) (l : Value) (xs : List PV) (r : Value) (ys : List PV) : Prop where
  rowL : w.ownsRow 0 61 4 l xs.length (xs.flatMap pcc)
  rowR : w.ownsRow 0 61 4 r ys.length (ys.flatMap pcc)
  lb : ∀ g, l.ownBlock = some g → w0.heap.size ≤ g
  rb : ∀ g, r.ownBlock = some g → w0.heap.size ≤ g
  sep : ∀ g, l.ownBlock = some g → r.ownBlock ≠ some g
  fr : Fr (fun _ => False) w0 w

theorem Own2.quiet {w0 w w' : World} {l r : Value} {xs ys : List PV} (h : Own2 w0 w l xs r ys) (hf : Fr (fun _ => False) w w') : Own2 w0 w' l xs r ys :=
  ⟨owns_keep h.rowL hf (fun _ _ x => x), owns_keep h.rowR hf (fun _ _ x => x), h.lb, h.rb, h.sep, h.fr.trans hf (fun _ _ x => x)⟩

theorem owns_lt {w : World} {T sz n : Nat} {v : Value} {xs : List Value} (h : w.ownsRow 0 T sz v n xs) {g : Nat} (hg : v.ownBlock = some g) : g < w.heap.size := by
  rcases h.2 with ⟨rfl, _⟩ | ⟨g', cap, cur, rfl, _, hh, _⟩
  · simp [Value.ownBlock] at hg
  · simp only [Value.ownBlock, Option.some.injEq] at hg
    subst hg; exact lt_blk hh

theorem Own2.left {w0 w w' : World} {l l' r : Value} {xs ys zs : List PV} (h : Own2 w0 w l xs r ys) (ho : w'.ownsRow 0 61 4 l' (xs.length + zs.length) (xs.flatMap pcc ++ zs.flatMap pcc)) (hf : Fr (fun b => some b = l.ownBlock) w w') (hg : ∀ g, l'.ownBlock = some g → l.ownBlock = some g ∨ w.heap.size ≤ g) :
    Own2 w0 w' l' (xs ++ zs) r ys := by
  have hs := h.fr.size
  refine ⟨?_, owns_keep h.rowR hf (fun g h1 h2 => h.sep g h2.symm h1), fun g h1 => ?_, h.rb, fun g h1 h2 => ?_, h.fr.trans hf (fun b hb e => by have := h.lb b e.symm; omega)⟩
  · rw [List.length_append, List.flatMap_append]; exact ho
  · rcases hg g h1 with h2 | h2
    · exact h.lb g h2
    · omega
  · rcases hg g h1 with h3 | h3
    · exact h.sep g h3 h2
    · have := owns_lt h.rowR h2; omega
theorem Own2.right {w0 w w' : World} {l r r' : Value} {xs ys zs : List PV} (h : Own2 w0 w l xs r ys) (ho : w'.ownsRow 0 61 4 r' (ys.length + zs.length) (ys.flatMap pcc ++ zs.flatMap pcc)) (hf : Fr (fun b => some b = r.ownBlock) w w') (hg : ∀ g, r'.ownBlock = some g → r.ownBlock = some g ∨ w.heap.size ≤ g) :
    Own2 w0 w' l xs r' (ys ++ zs) := by
  have hs := h.fr.size
  refine ⟨owns_keep h.rowL hf (fun g h1 h2 => h.sep g h1 h2.symm), ?_, h.lb, fun g h1 => ?_, fun g h1 h2 => ?_, h.fr.trans hf (fun b hb e => by have := h.rb b e.symm; omega)⟩
  · rw [List.length_append, List.flatMap_append]; exact ho
  · rcases hg g h1 with h2 | h2
    · exact h.rb g h2
    · omega
  · rcases hg g h2 with h3 | h3
    · exact h.sep g h1 h3
    · have := owns_lt h.rowL h1; omega

theorem Try.infoPiece : (Try.prog.info? 61).map (fun i => (i.zero, i.size, i.bytes)) = some (some (.agg #[.int .u64 0, .int .u64 0, .int .u64 0, .nilIface]), 4, 40) := by kernel_rfl

/-- cells that one cell can hold -/
def ones (zs : List PV) : Prop := ∀ u ∈ zs.flatMap pcc, u.oneCell' = true

section
variable {w w0 : World} {o : Oper} {a : Act} {K : Act → World → Prop} {Q : Exit → Act → World → Prop} {ops : Array Oper} {rest : List Oper} {l r u : Value} {xs ys zs : List PV}
theorem wp_left (s x : Operand) (ho : o.op = .call { callee := .builtin .append, args := #[s, x], argTypes := #[51, 51] }) (hs : a.eval s = l) (hx : a.eval x = u) (h : Own2 w0 w l xs r ys) (hrd : Rd w 4 u zs.length (zs.flatMap pcc)) (h1 : ones zs) (hn : xs.length + zs.length ≤ 10000000)
    (hK : ∀ l' w', Own2 w0 w' l' (xs ++ zs) r ys → Fr (fun b => some b = l.ownBlock) w w' → K (a.put o.dst l') w') : o.wp Try.prog a w K Q := by
  obtain ⟨i0, hi, hz0, hz1, hz2⟩ := info_parts Try.infoPiece
  exact wp_append_rows s x 51 ho 61 i0 _ 4 40 Try.underlying51 hi hz0 hz1 hz2 rfl (by decide) l xs.length _ hs h.rowL u zs.length _ hx hrd h1 (by simp only [maxLen]; omega) (by omega)
    (fun l' w' h2 h3 h4 => hK l' w' (h.left h2 h3 h4) h3)
theorem wpList_left (hgd : o.guard = none) (s x : Operand) (ho : o.op = .call { callee := .builtin .append, args := #[s, x], argTypes := #[51, 51] }) (hs : a.eval s = l) (hx : a.eval x = u) (h : Own2 w0 w l xs r ys) (hrd : Rd w 4 u zs.length (zs.flatMap pcc)) (h1 : ones zs) (hn : xs.length + zs.length ≤ 10000000)
    (hK : ∀ l' w', Own2 w0 w' l' (xs ++ zs) r ys → Fr (fun b => some b = l.ownBlock) w w' → wpList Try.prog ops Q rest (a.put o.dst l') w') : wpList Try.prog ops Q (o :: rest) a w :=
  wpList_plain hgd fun _ hk' => wp_left s x ho hs hx h hrd h1 hn (fun l' w' h2 h3 => hk' _ _ (hK l' w' h2 h3))
theorem wpList_right (hgd : o.guard = none) (s x : Operand) (ho : o.op = .call { callee := .builtin .append, args := #[s, x], argTypes := #[51, 51] }) (hs : a.eval s = r) (hx : a.eval x = u) (h : Own2 w0 w l xs r ys) (hrd : Rd w 4 u zs.length (zs.flatMap pcc)) (h1 : ones zs) (hn : ys.length + zs.length ≤ 10000000)
    (hK : ∀ r' w', Own2 w0 w' l xs r' (ys ++ zs) → Fr (fun b => some b = r.ownBlock) w w' → wpList Try.prog ops Q rest (a.put o.dst r') w') : wpList Try.prog ops Q (o :: rest) a w := by
  obtain ⟨i0, hi, hz0, hz1, hz2⟩ := info_parts Try.infoPiece
  refine wpList_plain hgd fun _ hk' => ?_
  exact wp_append_rows s x 51 ho 61 i0 _ 4 40 Try.underlying51 hi hz0 hz1 hz2 rfl (by decide) r ys.length _ hs h.rowR u zs.length _ hx hrd h1 (by simp only [maxLen]; omega) (by omega)
    (fun l' w' h2 h3 h4 => hk' _ _ (hK l' w' (h.right h2 h3 h4) h3))
end

/-- a form is one cell -/
theorem form_one {F : Nat → Prop} {w : World} {v : Value} {f : Fm} (h : FormAt F w v f) : v.oneCell' = true := by
  cases f with
  | none => obtain rfl := h; rfl
  | place bs => obtain ⟨a, c, rfl, _⟩ := h; rfl
  | things bs n => obtain ⟨a, c, a', c', rfl, _⟩ := h; rfl

theorem ones_of {F : Nat → Prop} {w : World} {zs : List PV} (h : ∀ x ∈ zs, FormAt F w x.2 x.1.f) : ones zs := by
  intro u hu
  obtain ⟨x, hx, hux⟩ := List.mem_flatMap.1 hu
  simp only [pcc, List.mem_cons, List.not_mem_nil, or_false] at hux
  rcases hux with rfl | rfl | rfl | rfl
  · rfl
  · rfl
  · rfl
  · exact form_one (h x hx)

/-- a piece just made -/
theorem rd_piece {w : World} (x : PV) {k : Nat} (hk : w.heap.size = k) : Rd (w.alloc (.cells #[.int .u64 (x.1.from_ : Nat), .int .u64 (x.1.to_ : Nat), .int .u64 (x.1.origin : Nat), x.2] 61)) 4 (.slice (some ⟨k, 0, none⟩) 1 1) [x].length ([x].flatMap pcc) := by
  subst hk
  exact Rd.new (vs := [.int .u64 (x.1.from_ : Nat), .int .u64 (x.1.to_ : Nat), .int .u64 (x.1.origin : Nat), x.2]) (by rw [heap_alloc, if_pos rfl]) 4 1 rfl
end Go.Proofs.Ytcnnibhipjkgiaa
