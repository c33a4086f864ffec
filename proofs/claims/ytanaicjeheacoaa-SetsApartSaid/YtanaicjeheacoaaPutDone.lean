/-
  A span is put: plain facts.
-/
import Derived.Test.YtanaicjeheacoaaPut
import Derived.Test.YtanaicjeheacoaaShift
namespace Go.Proofs.Ytanaicjeheacoaa
open Go.RowKit Go.Deep

theorem shift_list {α : Type} (P Q : List α) (z v : α) : (((P ++ Q ++ [z]).take (P.length + 1)) ++ ((P ++ Q ++ [z]).drop P.length).take ((P ++ Q).length + 1 - (P.length + 1))).set P.length v = P ++ v :: Q := by
  have e1 : ((P ++ Q ++ [z]).drop P.length).take ((P ++ Q).length + 1 - (P.length + 1)) = Q := by
    rw [List.append_assoc, List.drop_left' rfl]
    exact List.take_left' (by simp)
  obtain ⟨y, hy⟩ : ∃ y, (P ++ Q ++ [z]).take (P.length + 1) = P ++ [y] := by
    rw [List.append_assoc, List.take_append, List.take_of_length_le (by omega)]
    cases Q with
    | nil => exact ⟨z, by simp⟩
    | cons q Q => exact ⟨q, by simp⟩
  rw [e1, hy, List.append_assoc, List.set_append_right _ _ (Nat.le_refl _)]
  simp

theorem mem_takeWhile {α : Type} {p : α → Bool} {l : List α} {a : α} (h : a ∈ l.takeWhile p) : p a = true := by
  induction l with
  | nil => simp at h
  | cons b l ih =>
    by_cases hb : p b = true
    · rw [List.takeWhile_cons_of_pos hb] at h
      rcases List.mem_cons.1 h with rfl | h
      · exact hb
      · exact ih h
    · rw [List.takeWhile_cons_of_neg hb] at h; simp at h

theorem RowOf.put {L r : List It} {x : It} (h : RowOf L x.kd r) (hB : ∀ y ∈ L, y.base ≠ x.base) :
    ∃ pre post, r = pre ++ post ∧ pos r x.base = pre.length ∧ RowOf (L ++ [x]) x.kd (pre ++ x :: post) := by
  have hsp : r = r.takeWhile (fun y => decide (y.base < x.base)) ++ r.dropWhile (fun y => decide (y.base < x.base)) := List.takeWhile_append_dropWhile.symm
  have hx : ∀ y ∈ r.takeWhile (fun y => decide (y.base < x.base)), y.base < x.base := fun y hy => by simpa using mem_takeWhile hy
  have hpos : pos r x.base = (r.takeWhile (fun y => decide (y.base < x.base))).length := rfl
  have hhd : ∀ y z, r.dropWhile (fun y => decide (y.base < x.base)) = y :: z → x.base ≤ y.base := by
    intro y z he
    have := List.head_dropWhile_not (p := fun y : It => decide (y.base < x.base)) (l := r) (by rw [he]; simp)
    simp only [he, List.head_cons, decide_eq_false_iff_not] at this
    omega
  refine ⟨_, _, hsp, hpos, ?_⟩
  have ho := h.ord
  have hm := h.mem
  clear hpos
  generalize r.takeWhile (fun y => decide (y.base < x.base)) = pre at *
  generalize r.dropWhile (fun y => decide (y.base < x.base)) = post at *
  subst hsp
  rw [List.pairwise_append] at ho
  have hpost : ∀ y ∈ post, x.base < y.base := by
    intro y hy
    have hne := hB y ((hm y).1 (List.mem_append_right _ hy)).1
    cases post with
    | nil => simp at hy
    | cons q post =>
      have h1 := hhd q post rfl
      rcases List.mem_cons.1 hy with rfl | hy
      · omega
      · have := (List.pairwise_cons.1 ho.2.1).1 y hy; omega
  refine ⟨?_, fun y => ?_⟩
  · rw [List.pairwise_append]
    refine ⟨ho.1, List.pairwise_cons.2 ⟨hpost, ho.2.1⟩, fun y hy z hz => ?_⟩
    rcases List.mem_cons.1 hz with rfl | hz
    · exact hx y hy
    · exact ho.2.2 y hy z hz
  · have := hm y
    simp only [List.mem_append, List.mem_cons, List.not_mem_nil, or_false] at this ⊢
    constructor
    · rintro (h1 | rfl | h1)
      · exact ⟨.inl (this.1 (.inl h1)).1, (this.1 (.inl h1)).2⟩
      · exact ⟨.inr rfl, rfl⟩
      · exact ⟨.inl (this.1 (.inr h1)).1, (this.1 (.inr h1)).2⟩
    · rintro ⟨h1 | rfl, h2⟩
      · rcases this.2 ⟨h1, h2⟩ with h3 | h3
        · exact .inl h3
        · exact .inr (.inr h3)
      · exact .inr (.inl rfl)

/-- the sets behind a put -/
theorem put_done {w u4 w5 wa w6 w8 w9 : World} {s m1 m2 m3 c c6 g : Nat} {i1 i2 : List (Int × Value)} {i3 : List (Kd × Value)} {L r pre post : List It} {F : Nat → Prop} {x : It} {a : Option Addr}
    (H : Sets w s m1 m2 m3 i1 i2 i3 L) (hF : ∀ b, sfp s m1 m2 m3 i3 L b → F b) (hxb : x.b = w.heap.size) (hI : ∀ y ∈ L, y.id ≠ x.id) (hB : ∀ y ∈ L, y.base ≠ x.base)
    (hv : (mapGet i3 x.kd).getD (.slice none 0 0) = .slice a r.length c) (hr' : RowOf (L ++ [x]) x.kd (pre ++ x :: post)) (hsp : r = pre ++ post)
    (Lids : MapIs ienc u4 m1 (mapSet i1 x.id x.ptr)) (Lbases : MapIs benc u4 m2 (mapSet i2 x.base x.ptr)) (LF : Fr (fun b => b = m1 ∨ b = m2) w u4) (F5 : Fr (fun _ => False) u4 w5) (FA : Fr (fun _ => False) w5 wa)
    (F6 : Fr (fun b => some b = (Value.slice a r.length c).ownBlock) wa w6) (hg6 : (Value.slice a r.length c).ownBlock = some g ∨ wa.heap.size ≤ g)
    (F8 : Fr (fun b => b = g) w6 w8) (N8 : w8.heap[x.b]? = some (.cells x.cells 58 (0, 0))) (hgx : g ≠ x.b)
    (O8 : w8.ownsRow 0 54 1 (.slice (some ⟨g, 0, none⟩) (r.length + 1) c6) (r.length + 1)
      (((r.map It.ptr ++ [Value.pointer none]).take (pre.length + 1) ++ ((r.map It.ptr ++ [Value.pointer none]).drop pre.length).take (r.length + 1 - (pre.length + 1))).set pre.length x.ptr))
    (M9 : MapIs kenc w9 m3 (mapSet i3 x.kd (.slice (some ⟨g, 0, none⟩) (r.length + 1) c6))) (F9 : Fr (fun b => b = m3) w8 w9) :
    Is w9 s (L ++ [x]) (fun b => F b ∨ w.heap.size ≤ b) ∧ Fr F w w9 := by
  have hown : ∀ g, (Value.slice a r.length c).ownBlock = some g → (x.kd, Value.slice a r.length c) ∈ i3 := fun g hg => H.core.own hv hg
  have hm1 : ∀ g, (Value.slice a r.length c).ownBlock = some g → g ≠ m1 ∧ g ≠ m2 ∧ g ≠ m3 ∧ g < w.heap.size := fun g hg => by
    obtain ⟨r', _, ho'⟩ := H.core.row _ _ (hown g hg)
    obtain ⟨cur, hc⟩ := ownsRow_blk ho' hg
    exact ⟨H.ids.ne hc, H.bases.ne hc, H.core.sets.ne hc, lt_blk hc⟩
  have ga : Fr (fun b => b = m1 ∨ b = m2) w wa := (LF.trans F5 (fun _ _ => False.elim)).trans FA (fun _ _ => False.elim)
  have hsz := ga.size
  have hgw : (Value.slice a r.length c).ownBlock = some g ∨ w.heap.size ≤ g := hg6.imp_right (fun h => by omega)
  have l1 := H.ids.lt
  have l2 := H.bases.lt
  have l3 := H.core.sets.lt
  have ls := lt_blk H.core.root
  have hgm : g ≠ m1 ∧ g ≠ m2 ∧ g ≠ m3 := by
    rcases hgw with h1 | h1
    · exact ⟨(hm1 g h1).1, (hm1 g h1).2.1, (hm1 g h1).2.2.1⟩
    · exact ⟨by omega, by omega, by omega⟩
  have g8 : Fr (fun b => b = m1 ∨ b = m2 ∨ some b = (Value.slice a r.length c).ownBlock) w w8 := by
    refine ((ga.mono (fun _ _ h => h.elim .inl (fun h => .inr (.inl h)))).trans F6 (fun _ _ h => .inr (.inr h))).trans F8 (fun b hb he => ?_)
    rcases hgw with h1 | h1
    · exact .inr (.inr (by rw [he]; exact h1.symm))
    · omega
  have g9 : Fr (fun b => (b = m1 ∨ b = m2) ∨ b = m3 ∨ some b = (Value.slice a r.length c).ownBlock) w w9 :=
    (g8.mono (fun _ _ h => h.elim (fun h => .inl (.inl h)) (fun h => h.elim (fun h => .inl (.inr h)) (fun h => .inr (.inr h))))).trans F9 (fun _ _ h => .inr (.inl h))
  have hrow := shift_list (pre.map It.ptr) (post.map It.ptr) (Value.pointer none) x.ptr
  rw [hsp] at O8
  simp only [List.map_append, List.length_append, List.length_map] at hrow O8
  rw [hrow] at O8
  have hlen : (pre ++ x :: post).length = pre.length + post.length + 1 := by simp; omega
  have O9 : w9.ownsRow 0 54 1 (.slice (some ⟨g, 0, none⟩) (r.length + 1) c6) (pre ++ x :: post).length ((pre ++ x :: post).map It.ptr) := by
    rw [hsp, hlen]
    simp only [List.map_append, List.map_cons, List.length_append]
    exact ownsRow_keep O8 F9 (fun g' hg' he => by
      simp only [Value.ownBlock, Option.some.injEq] at hg'
      subst hg'
      exact hgm.2.2 he)
  have hnode : ∀ y ∈ L ++ [x], w9.heap[y.b]? = some (.cells y.cells 58 (0, 0)) := fun y hy => by
    rcases List.mem_append.1 hy with hy | hy
    · refine g9.at (H.core.node y hy) ?_
      rintro ((h | h) | h | h)
      · exact H.ids.ne (H.core.node y hy) h
      · exact H.bases.ne (H.core.node y hy) h
      · exact H.core.sets.ne (H.core.node y hy) h
      · exact (H.core.sepR _ _ _ (hown _ h.symm) h.symm).2 y hy rfl
    · simp only [List.mem_singleton] at hy
      subst hy
      exact F9.at N8 (by omega)
  have hnot : ∀ y ∈ L, y.b < w.heap.size := fun y hy => lt_blk (H.core.node y hy)
  have nd : ∀ {β : Type} (f : It → β), (L.map f).Nodup → (∀ y ∈ L, f y ≠ f x) → ((L ++ [x]).map f).Nodup := fun f h1 h2 => by
    rw [List.map_append, List.nodup_append]
    refine ⟨h1, by simp, fun a ha b hb => ?_⟩
    simp only [List.map_cons, List.map_nil, List.mem_singleton] at hb
    obtain ⟨y, hy, rfl⟩ := List.mem_map.1 ha
    rw [hb]; exact h2 y hy
  have hmem : ∀ y, y ∈ L ++ [x] ↔ y ∈ L ∨ y = x := fun y => by simp
  have C9 : Core w9 s m1 m2 m3 (mapSet i3 x.kd (.slice (some ⟨g, 0, none⟩) (r.length + 1) c6)) (L ++ [x]) :=
    H.core.turn (S := fun b => b = m1 ∨ b = m2) hv (fun y hy => by rw [hmem]; exact ⟨fun h => h.elim (fun h => h) (fun h => absurd (by rw [h]) hy), .inl⟩) hr' hnode
      (nd _ H.core.ndb (fun y hy => by have := hnot y hy; omega)) (nd _ H.core.ndB hB) g9 (fun h => h.elim (H.ids.ne H.core.root) (H.bases.ne H.core.root))
      (fun k u g hm hg h => by
        obtain ⟨r', _, ho'⟩ := H.core.row _ _ hm
        obtain ⟨cur, hc⟩ := ownsRow_blk ho' hg
        exact h.elim (H.ids.ne hc) (H.bases.ne hc)) M9 O9 (fun g' hg' => by
          simp only [Value.ownBlock, Option.some.injEq] at hg'
          subst hg'; exact hgw)
      (fun y hy => ⟨fun g' hg' => by
          simp only [Value.ownBlock, Option.some.injEq] at hg'
          subst hg'
          rcases (hmem y).1 hy with hy | rfl
          · rcases hgw with h1 | h1
            · exact (H.core.sepR _ _ _ (hown _ h1) h1).2 y hy
            · have := hnot y hy; omega
          · exact hgx, by
          rcases (hmem y).1 hy with hy | rfl
          · exact .inl hy
          · exact .inr (by omega)⟩)
  have q1 : ∀ z v, (z, v) ∈ mapSet i1 x.id x.ptr ↔ ∃ y ∈ L ++ [x], y.id = z ∧ v = y.ptr := fun z u => by
    rw [mem_mapSet H.ids.nodup, H.idsL]
    constructor
    · rintro (h | ⟨_, y, hy, h2, h3⟩)
      · simp only [Prod.mk.injEq] at h; exact ⟨x, (hmem x).2 (.inr rfl), h.1.symm, h.2⟩
      · exact ⟨y, (hmem y).2 (.inl hy), h2, h3⟩
    · rintro ⟨y, hy, h2, h3⟩
      rcases (hmem y).1 hy with hy | rfl
      · exact .inr ⟨by rw [← h2]; exact hI y hy, y, hy, h2, h3⟩
      · exact .inl (by rw [← h2, h3])
  have q2 : ∀ z v, (z, v) ∈ mapSet i2 x.base x.ptr ↔ ∃ y ∈ L ++ [x], y.base = z ∧ v = y.ptr := fun z u => by
    rw [mem_mapSet H.bases.nodup, H.basesL]
    constructor
    · rintro (h | ⟨_, y, hy, h2, h3⟩)
      · simp only [Prod.mk.injEq] at h; exact ⟨x, (hmem x).2 (.inr rfl), h.1.symm, h.2⟩
      · exact ⟨y, (hmem y).2 (.inl hy), h2, h3⟩
    · rintro ⟨y, hy, h2, h3⟩
      rcases (hmem y).1 hy with hy | rfl
      · exact .inr ⟨by rw [← h2]; exact hB y hy, y, hy, h2, h3⟩
      · exact .inl (by rw [← h2, h3])
  have fu : Fr (fun b => some b = (Value.slice a r.length c).ownBlock ∨ b = g ∨ b = m3) u4 w9 :=
    ((((F5.trans FA (fun _ _ h => h)).mono (fun _ _ => False.elim)).trans F6 (fun _ _ h => .inl h)).trans F8 (fun _ _ h => .inr (.inl h))).trans F9 (fun _ _ h => .inr (.inr h))
  have A1 := Lids.fr fu (by rintro (h | h | h) <;> first | exact (hm1 _ h.symm).1 rfl | exact hgm.1 h.symm | exact H.sepM.2.1 h)
  have A2 := Lbases.fr fu (by rintro (h | h | h) <;> first | exact (hm1 _ h.symm).2.1 rfl | exact hgm.2.1 h.symm | exact H.sepM.2.2 h)
  refine ⟨⟨m1, m2, m3, _, _, _, ⟨C9, A1, A2, q1, q2, nd _ H.ndI hI, H.sepM⟩, fun b hb => ?_⟩, g9.mono (fun b _ hb => hF b ?_)⟩
  · rcases hb with hb | hb | hb | hb | ⟨y, hy, hb⟩ | ⟨k, u, hm, hb⟩
    · exact .inl (hF b (.inl hb))
    · exact .inl (hF b (.inr (.inl hb)))
    · exact .inl (hF b (.inr (.inr (.inl hb))))
    · exact .inl (hF b (.inr (.inr (.inr (.inl hb)))))
    · rcases (hmem y).1 hy with hy | rfl
      · exact .inl (hF b (.inr (.inr (.inr (.inr (.inl ⟨y, hy, hb⟩))))))
      · exact .inr (by omega)
    · rcases (mem_mapSet H.core.sets.nodup _).1 hm with he | ⟨hne, hm⟩
      · simp only [Prod.mk.injEq] at he
        obtain ⟨rfl, rfl⟩ := he
        simp only [Value.ownBlock, Option.some.injEq] at hb
        subst hb
        rcases hgw with h1 | h1
        · exact .inl (hF _ (.inr (.inr (.inr (.inr (.inr ⟨_, _, hown _ h1, h1⟩))))))
        · exact .inr h1
      · exact .inl (hF b (.inr (.inr (.inr (.inr (.inr ⟨k, u, hm, hb⟩))))))
  · rcases hb with (hb | hb) | hb | hb
    · exact .inr (.inl hb)
    · exact .inr (.inr (.inl hb))
    · exact .inr (.inr (.inr (.inl hb)))
    · exact .inr (.inr (.inr (.inr (.inr ⟨_, _, hown _ hb.symm, hb.symm⟩))))
end Go.Proofs.Ytanaicjeheacoaa
