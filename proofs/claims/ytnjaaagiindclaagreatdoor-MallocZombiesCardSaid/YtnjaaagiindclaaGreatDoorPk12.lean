/-
  Part 12 of what the statement leans on: PutDone, PutOk, Own, Flip, FlipOk, Mine, SxW, SxG, Sets.
-/
import Derived.Test.YtnjaaagiindclaaGreatDoorPk9
import Derived.Test.YtnjaaagiindclaaGreatDoorPk11
/-
  A span is put: plain facts.
-/
namespace Go.Proofs.YtnjaaagiindclaaGreatDoor
open Go.RowKit Go.Deep

theorem shift_list {α : Type} (P Q : List α) (z v : α) : (((P ++ Q ++ [z]).take (P.length + 1)) ++ ((P ++ Q ++ [z]).drop P.length).take ((P ++ Q).length + 1 - (P.length + 1))).set P.length v = P ++ v :: Q := by
  have e1 : ((P ++ Q ++ [z]).drop P.length).take ((P ++ Q).length + 1 - (P.length + 1)) = Q := by
    rw [List.append_assoc, List.drop_left' rfl]
    exact List.take_left' (by simp)
  obtain ⟨y, hy⟩ : ∃ y, (P ++ Q ++ [z]).take (P.length + 1) = P ++ [y] := by
    rw [List.append_assoc, List.take_append, List.take_of_length_le (by omega)]
    cases Q with
    | nil => exact ⟨z, by simp⟩
    | cons q Q => exact ⟨q, by simp⟩
  rw [e1, hy, List.append_assoc, List.set_append_right _ _ (Nat.le_refl _)]
  simp

theorem mem_takeWhile {α : Type} {p : α → Bool} {l : List α} {a : α} (h : a ∈ l.takeWhile p) : p a = true := by
  induction l with
  | nil => simp at h
  | cons b l ih =>
    by_cases hb : p b = true
    · rw [List.takeWhile_cons_of_pos hb] at h
      rcases List.mem_cons.1 h with rfl | h
      · exact hb
      · exact ih h
    · rw [List.takeWhile_cons_of_neg hb] at h; simp at h

theorem RowOf.put {L r : List It} {x : It} (h : RowOf L x.kd r) (hB : ∀ y ∈ L, y.base ≠ x.base) :
    ∃ pre post, r = pre ++ post ∧ pos r x.base = pre.length ∧ RowOf (L ++ [x]) x.kd (pre ++ x :: post) := by
  have hsp : r = r.takeWhile (fun y => decide (y.base < x.base)) ++ r.dropWhile (fun y => decide (y.base < x.base)) := List.takeWhile_append_dropWhile.symm
  have hx : ∀ y ∈ r.takeWhile (fun y => decide (y.base < x.base)), y.base < x.base := fun y hy => by simpa using mem_takeWhile hy
  have hpos : pos r x.base = (r.takeWhile (fun y => decide (y.base < x.base))).length := rfl
  have hhd : ∀ y z, r.dropWhile (fun y => decide (y.base < x.base)) = y :: z → x.base ≤ y.base := by
    intro y z he
    have := List.head_dropWhile_not (p := fun y : It => decide (y.base < x.base)) (l := r) (by rw [he]; simp)
    simp only [he, List.head_cons, decide_eq_false_iff_not] at this
    omega
  refine ⟨_, _, hsp, hpos, ?_⟩
  have ho := h.ord
  have hm := h.mem
  clear hpos
  generalize r.takeWhile (fun y => decide (y.base < x.base)) = pre at *
  generalize r.dropWhile (fun y => decide (y.base < x.base)) = post at *
  subst hsp
  rw [List.pairwise_append] at ho
  have hpost : ∀ y ∈ post, x.base < y.base := by
    intro y hy
    have hne := hB y ((hm y).1 (List.mem_append_right _ hy)).1
    cases post with
    | nil => simp at hy
    | cons q post =>
      have h1 := hhd q post rfl
      rcases List.mem_cons.1 hy with rfl | hy
      · omega
      · have := (List.pairwise_cons.1 ho.2.1).1 y hy; omega
  refine ⟨?_, fun y => ?_⟩
  · rw [List.pairwise_append]
    refine ⟨ho.1, List.pairwise_cons.2 ⟨hpost, ho.2.1⟩, fun y hy z hz => ?_⟩
    rcases List.mem_cons.1 hz with rfl | hz
    · exact hx y hy
    · exact ho.2.2 y hy z hz
  · have := hm y
    simp only [List.mem_append, List.mem_cons, List.not_mem_nil, or_false] at this ⊢
    constructor
    · rintro (h1 | rfl | h1)
      · exact ⟨.inl (this.1 (.inl h1)).1, (this.1 (.inl h1)).2⟩
      · exact ⟨.inr rfl, rfl⟩
      · exact ⟨.inl (this.1 (.inr h1)).1, (this.1 (.inr h1)).2⟩
    · rintro ⟨h1 | rfl, h2⟩
      · rcases this.2 ⟨h1, h2⟩ with h3 | h3
        · exact .inl h3
        · exact .inr (.inr h3)
      · exact .inr (.inl rfl)

/-- the sets behind a put -/
theorem put_done {w u4 w5 wa w6 w8 w9 : World} {s m1 m2 m3 c c6 g : Nat} {i1 i2 : List (Int × Value)} {i3 : List (Kd × Value)} {L r pre post : List It} {F : Nat → Prop} {x : It} {a : Option Addr}
    (H : Sets w s m1 m2 m3 i1 i2 i3 L) (hF : ∀ b, sfp s m1 m2 m3 i3 L b → F b) (hxb : x.b = w.heap.size) (hI : ∀ y ∈ L, y.id ≠ x.id) (hB : ∀ y ∈ L, y.base ≠ x.base)
    (hv : (mapGet i3 x.kd).getD (.slice none 0 0) = .slice a r.length c) (hr' : RowOf (L ++ [x]) x.kd (pre ++ x :: post)) (hsp : r = pre ++ post)
    (Lids : MapIs ienc u4 m1 (mapSet i1 x.id x.ptr)) (Lbases : MapIs benc u4 m2 (mapSet i2 x.base x.ptr)) (LF : Fr (fun b => b = m1 ∨ b = m2) w u4) (F5 : Fr (fun _ => False) u4 w5) (FA : Fr (fun _ => False) w5 wa)
    (F6 : Fr (fun b => some b = (Value.slice a r.length c).ownBlock) wa w6) (hg6 : (Value.slice a r.length c).ownBlock = some g ∨ wa.heap.size ≤ g)
    (F8 : Fr (fun b => b = g) w6 w8) (N8 : w8.heap[x.b]? = some (.cells x.cells 167 (0, 0))) (hgx : g ≠ x.b)
    (O8 : w8.ownsRow 0 158 1 (.slice (some ⟨g, 0, none⟩) (r.length + 1) c6) (r.length + 1)
      (((r.map It.ptr ++ [Value.pointer none]).take (pre.length + 1) ++ ((r.map It.ptr ++ [Value.pointer none]).drop pre.length).take (r.length + 1 - (pre.length + 1))).set pre.length x.ptr))
    (M9 : MapIs kenc w9 m3 (mapSet i3 x.kd (.slice (some ⟨g, 0, none⟩) (r.length + 1) c6))) (F9 : Fr (fun b => b = m3) w8 w9) :
    Is w9 s (L ++ [x]) (fun b => F b ∨ w.heap.size ≤ b) ∧ Fr F w w9 := by
  have hown : ∀ g, (Value.slice a r.length c).ownBlock = some g → (x.kd, Value.slice a r.length c) ∈ i3 := fun g hg => H.core.own hv hg
  have hm1 : ∀ g, (Value.slice a r.length c).ownBlock = some g → g ≠ m1 ∧ g ≠ m2 ∧ g ≠ m3 ∧ g < w.heap.size := fun g hg => by
    obtain ⟨r', _, ho'⟩ := H.core.row _ _ (hown g hg)
    obtain ⟨cur, hc⟩ := ownsRow_blk ho' hg
    exact ⟨H.ids.ne hc, H.bases.ne hc, H.core.sets.ne hc, lt_blk hc⟩
  have ga : Fr (fun b => b = m1 ∨ b = m2) w wa := (LF.trans F5 (fun _ _ => False.elim)).trans FA (fun _ _ => False.elim)
  have hsz := ga.size
  have hgw : (Value.slice a r.length c).ownBlock = some g ∨ w.heap.size ≤ g := hg6.imp_right (fun h => by omega)
  have l1 := H.ids.lt
  have l2 := H.bases.lt
  have l3 := H.core.sets.lt
  have ls := lt_blk H.core.root
  have hgm : g ≠ m1 ∧ g ≠ m2 ∧ g ≠ m3 := by
    rcases hgw with h1 | h1
    · exact ⟨(hm1 g h1).1, (hm1 g h1).2.1, (hm1 g h1).2.2.1⟩
    · exact ⟨by omega, by omega, by omega⟩
  have g8 : Fr (fun b => b = m1 ∨ b = m2 ∨ some b = (Value.slice a r.length c).ownBlock) w w8 := by
    refine ((ga.mono (fun _ _ h => h.elim .inl (fun h => .inr (.inl h)))).trans F6 (fun _ _ h => .inr (.inr h))).trans F8 (fun b hb he => ?_)
    rcases hgw with h1 | h1
    · exact .inr (.inr (by rw [he]; exact h1.symm))
    · omega
  have g9 : Fr (fun b => (b = m1 ∨ b = m2) ∨ b = m3 ∨ some b = (Value.slice a r.length c).ownBlock) w w9 :=
    (g8.mono (fun _ _ h => h.elim (fun h => .inl (.inl h)) (fun h => h.elim (fun h => .inl (.inr h)) (fun h => .inr (.inr h))))).trans F9 (fun _ _ h => .inr (.inl h))
  have hrow := shift_list (pre.map It.ptr) (post.map It.ptr) (Value.pointer none) x.ptr
  rw [hsp] at O8
  simp only [List.map_append, List.length_append, List.length_map] at hrow O8
  rw [hrow] at O8
  have hlen : (pre ++ x :: post).length = pre.length + post.length + 1 := by simp; omega
  have O9 : w9.ownsRow 0 158 1 (.slice (some ⟨g, 0, none⟩) (r.length + 1) c6) (pre ++ x :: post).length ((pre ++ x :: post).map It.ptr) := by
    rw [hsp, hlen]
    simp only [List.map_append, List.map_cons, List.length_append]
    exact ownsRow_keep O8 F9 (fun g' hg' he => by
      simp only [Value.ownBlock, Option.some.injEq] at hg'
      subst hg'
      exact hgm.2.2 he)
  have hnode : ∀ y ∈ L ++ [x], w9.heap[y.b]? = some (.cells y.cells 167 (0, 0)) := fun y hy => by
    rcases List.mem_append.1 hy with hy | hy
    · refine g9.at (H.core.node y hy) ?_
      rintro ((h | h) | h | h)
      · exact H.ids.ne (H.core.node y hy) h
      · exact H.bases.ne (H.core.node y hy) h
      · exact H.core.sets.ne (H.core.node y hy) h
      · exact (H.core.sepR _ _ _ (hown _ h.symm) h.symm).2 y hy rfl
    · simp only [List.mem_singleton] at hy
      subst hy
      exact F9.at N8 (by omega)
  have hnot : ∀ y ∈ L, y.b < w.heap.size := fun y hy => lt_blk (H.core.node y hy)
  have nd : ∀ {β : Type} (f : It → β), (L.map f).Nodup → (∀ y ∈ L, f y ≠ f x) → ((L ++ [x]).map f).Nodup := fun f h1 h2 => by
    rw [List.map_append, List.nodup_append]
    refine ⟨h1, by simp, fun a ha b hb => ?_⟩
    simp only [List.map_cons, List.map_nil, List.mem_singleton] at hb
    obtain ⟨y, hy, rfl⟩ := List.mem_map.1 ha
    rw [hb]; exact h2 y hy
  have hmem : ∀ y, y ∈ L ++ [x] ↔ y ∈ L ∨ y = x := fun y => by simp
  have C9 : Core w9 s m1 m2 m3 (mapSet i3 x.kd (.slice (some ⟨g, 0, none⟩) (r.length + 1) c6)) (L ++ [x]) :=
    H.core.turn (S := fun b => b = m1 ∨ b = m2) hv (fun y hy => by rw [hmem]; exact ⟨fun h => h.elim (fun h => h) (fun h => absurd (by rw [h]) hy), .inl⟩) hr' hnode
      (nd _ H.core.ndb (fun y hy => by have := hnot y hy; omega)) (nd _ H.core.ndB hB) g9 (fun h => h.elim (H.ids.ne H.core.root) (H.bases.ne H.core.root))
      (fun k u g hm hg h => by
        obtain ⟨r', _, ho'⟩ := H.core.row _ _ hm
        obtain ⟨cur, hc⟩ := ownsRow_blk ho' hg
        exact h.elim (H.ids.ne hc) (H.bases.ne hc)) M9 O9 (fun g' hg' => by
          simp only [Value.ownBlock, Option.some.injEq] at hg'
          subst hg'; exact hgw)
      (fun y hy => ⟨fun g' hg' => by
          simp only [Value.ownBlock, Option.some.injEq] at hg'
          subst hg'
          rcases (hmem y).1 hy with hy | rfl
          · rcases hgw with h1 | h1
            · exact (H.core.sepR _ _ _ (hown _ h1) h1).2 y hy
            · have := hnot y hy; omega
          · exact hgx, by
          rcases (hmem y).1 hy with hy | rfl
          · exact .inl hy
          · exact .inr (by omega)⟩)
  have q1 : ∀ z v, (z, v) ∈ mapSet i1 x.id x.ptr ↔ ∃ y ∈ L ++ [x], y.id = z ∧ v = y.ptr := fun z u => by
    rw [mem_mapSet H.ids.nodup, H.idsL]
    constructor
    · rintro (h | ⟨_, y, hy, h2, h3⟩)
      · simp only [Prod.mk.injEq] at h; exact ⟨x, (hmem x).2 (.inr rfl), h.1.symm, h.2⟩
      · exact ⟨y, (hmem y).2 (.inl hy), h2, h3⟩
    · rintro ⟨y, hy, h2, h3⟩
      rcases (hmem y).1 hy with hy | rfl
      · exact .inr ⟨by rw [← h2]; exact hI y hy, y, hy, h2, h3⟩
      · exact .inl (by rw [← h2, h3])
  have q2 : ∀ z v, (z, v) ∈ mapSet i2 x.base x.ptr ↔ ∃ y ∈ L ++ [x], y.base = z ∧ v = y.ptr := fun z u => by
    rw [mem_mapSet H.bases.nodup, H.basesL]
    constructor
    · rintro (h | ⟨_, y, hy, h2, h3⟩)
      · simp only [Prod.mk.injEq] at h; exact ⟨x, (hmem x).2 (.inr rfl), h.1.symm, h.2⟩
      · exact ⟨y, (hmem y).2 (.inl hy), h2, h3⟩
    · rintro ⟨y, hy, h2, h3⟩
      rcases (hmem y).1 hy with hy | rfl
      · exact .inr ⟨by rw [← h2]; exact hB y hy, y, hy, h2, h3⟩
      · exact .inl (by rw [← h2, h3])
  have fu : Fr (fun b => some b = (Value.slice a r.length c).ownBlock ∨ b = g ∨ b = m3) u4 w9 :=
    ((((F5.trans FA (fun _ _ h => h)).mono (fun _ _ => False.elim)).trans F6 (fun _ _ h => .inl h)).trans F8 (fun _ _ h => .inr (.inl h))).trans F9 (fun _ _ h => .inr (.inr h))
  have A1 := Lids.fr fu (by rintro (h | h | h) <;> first | exact (hm1 _ h.symm).1 rfl | exact hgm.1 h.symm | exact H.sepM.2.1 h)
  have A2 := Lbases.fr fu (by rintro (h | h | h) <;> first | exact (hm1 _ h.symm).2.1 rfl | exact hgm.2.1 h.symm | exact H.sepM.2.2 h)
  refine ⟨⟨m1, m2, m3, _, _, _, ⟨C9, A1, A2, q1, q2, nd _ H.ndI hI, H.sepM⟩, fun b hb => ?_⟩, g9.mono (fun b _ hb => hF b ?_)⟩
  · rcases hb with hb | hb | hb | hb | ⟨y, hy, hb⟩ | ⟨k, u, hm, hb⟩
    · exact .inl (hF b (.inl hb))
    · exact .inl (hF b (.inr (.inl hb)))
    · exact .inl (hF b (.inr (.inr (.inl hb))))
    · exact .inl (hF b (.inr (.inr (.inr (.inl hb)))))
    · rcases (hmem y).1 hy with hy | rfl
      · exact .inl (hF b (.inr (.inr (.inr (.inr (.inl ⟨y, hy, hb⟩))))))
      · exact .inr (by omega)
    · rcases (mem_mapSet H.core.sets.nodup _).1 hm with he | ⟨hne, hm⟩
      · simp only [Prod.mk.injEq] at he
        obtain ⟨rfl, rfl⟩ := he
        simp only [Value.ownBlock, Option.some.injEq] at hb
        subst hb
        rcases hgw with h1 | h1
        · exact .inl (hF _ (.inr (.inr (.inr (.inr (.inr ⟨_, _, hown _ h1, h1⟩))))))
        · exact .inr h1
      · exact .inl (hF b (.inr (.inr (.inr (.inr (.inr ⟨k, u, hm, hb⟩))))))
  · rcases hb with (hb | hb) | hb | hb
    · exact .inr (.inl hb)
    · exact .inr (.inr (.inl hb))
    · exact .inr (.inr (.inr (.inl hb)))
    · exact .inr (.inr (.inr (.inr (.inr ⟨_, _, hown _ hb.symm, hb.symm⟩))))
end Go.Proofs.YtnjaaagiindclaaGreatDoor

/-
  A span is put.
-/
namespace Go.Proofs.YtnjaaagiindclaaGreatDoor
open Go.RowKit Go.Deep

/-- the two maps have taken the span in -/
structure Listed (w w1 u4 : World) (s m1 m2 m3 : Nat) (i1 i2 : List (Int × Value)) (i3 : List (Kd × Value)) (L : List It) (x : It) : Prop where
  ids : MapIs ienc u4 m1 (mapSet i1 x.id x.ptr)
  bases : MapIs benc u4 m2 (mapSet i2 x.base x.ptr)
  core : Core u4 s m1 m2 m3 i3 L
  node : u4.heap[x.b]? = some (.cells x.cells 167 (0, 0))
  fr : Fr (fun b => b = m1 ∨ b = m2) w u4

/-- the words of the two maps' entries, one behind the other -/
theorem row_some {w : World} {T n c : Nat} {a : Option Addr} {xs : List Value} (h : w.ownsRow 0 T 1 (.slice a (n + 1) c) (n + 1) xs) : ∃ g, a = some ⟨g, 0, none⟩ := by
  rcases h with ⟨_, ⟨_, hv⟩ | ⟨g, cap, cur, hv, _⟩⟩
  · omega
  · simp only [Value.slice.injEq] at hv; exact ⟨g, hv.1⟩

theorem row_cell {w : World} {T n c g j : Nat} {xs : List Value} (h : w.ownsRow 0 T 1 (.slice (some ⟨g, 0, none⟩) n c) n xs) (hj : j < n) : ∃ v, w.cell? ⟨g, j, none⟩ = some v := by
  obtain ⟨hl, ⟨hv, _⟩ | ⟨g', cap, cur, hv, _, hg, hn, hcm, hcs, htk⟩⟩ := h
  · simp at hv
  · simp only [Value.slice.injEq, Option.some.injEq, Addr.mk.injEq] at hv
    obtain ⟨⟨rfl, _⟩, _, rfl⟩ := hv
    exact ⟨_, by rw [cell_blk hg]; exact Array.getElem?_eq_getElem (by omega)⟩

theorem listed {w : World} {s m1 m2 m3 : Nat} {i1 i2 : List (Int × Value)} {i3 : List (Kd × Value)} {L : List It} (h : Sets w s m1 m2 m3 i1 i2 i3 L) (x : It) (hxb : x.b = w.heap.size) (hI : ∀ y ∈ L, y.id ≠ x.id) (hB : ∀ y ∈ L, y.base ≠ x.base) :
    ∃ st1 st2 u1 u2 u3 u4,
      (Instr.mapEntry 159 (.map (some m1)) (.int .i64 x.id)).run Tryz.prog (w.alloc (.cells x.cells 167)).drew = .ok (.tuple #[.pointer none, st1]) u1 ∧
      (Instr.entryStore 159 (.map (some m1)) st1 (.pointer (some ⟨x.b, 0, none⟩))).run Tryz.prog u1 = .ok () u2 ∧
      (Instr.mapEntry 160 (.map (some m2)) (.int .u64 x.base)).run Tryz.prog u2 = .ok (.tuple #[.pointer none, st2]) u3 ∧
      (Instr.entryStore 160 (.map (some m2)) st2 (.pointer (some ⟨x.b, 0, none⟩))).run Tryz.prog u3 = .ok () u4 ∧
      (∀ u, u = u1 ∨ u = u2 ∨ u = u3 ∨ u = u4 → u.cell? ⟨s, 0, none⟩ = some (.map (some m1)) ∧ u.cell? ⟨s, 1, none⟩ = some (.map (some m2))) ∧ Listed w (w.alloc (.cells x.cells 167)) u4 s m1 m2 m3 i1 i2 i3 L x := by
  have f0 : Fr (fun _ => False) w (w.alloc (.cells x.cells 167)).drew := ((Fr.refl _ w).alloc _).drew
  have k1 : x.id ∉ i1.map (·.1) := fun hm => by
    obtain ⟨⟨k, v⟩, hp, he⟩ := List.mem_map.1 hm
    obtain ⟨y, hy, h1, _⟩ := (h.idsL _ _).1 hp
    exact hI y hy (h1.trans he)
  have k2 : x.base ∉ i2.map (·.1) := fun hm => by
    obtain ⟨⟨k, v⟩, hp, he⟩ := List.mem_map.1 hm
    obtain ⟨y, hy, h1, _⟩ := (h.basesL _ _).1 hp
    exact hB y hy (h1.trans he)
  have hn0 : (w.alloc (.cells x.cells 167)).drew.heap[x.b]? = some (.cells x.cells 167 (0, 0)) := by
    show (w.alloc _).heap[_]? = _; rw [hxb, heap_alloc, if_pos rfl]
  have C0 := h.core.quiet f0
  have I0 := h.ids.fr f0 (fun x => x)
  have B0 := h.bases.fr f0 (fun x => x)
  obtain ⟨st1, u1, r1, e1, f1⟩ := run_map_entry_new keyLaw_i Tryz.underlying159 I0 x.id k1 (.pointer none) (zero_item _)
  have hm1s : s ≠ m1 := h.ids.ne h.core.root
  have hm2s : s ≠ m2 := h.bases.ne h.core.root
  have C1 := C0.keep_map I0 h.sepM.2.1 f1
  have N1 := f1.at hn0 (I0.ne hn0)
  have B1 := B0.fr f1 (fun e => h.sepM.1 e.symm)
  obtain ⟨u2, r2, e2, f2⟩ := run_entry_store 159 e1 k1 (.pointer (some ⟨x.b, 0, none⟩))
  have C2 := (C0.keep_map I0 h.sepM.2.1 (f1.trans f2 (fun _ _ h => h)))
  have N2 := (f1.trans f2 (fun _ _ h => h)).at hn0 (I0.ne hn0)
  have B2 := B1.fr f2 (fun e => h.sepM.1 e.symm)
  obtain ⟨st2, u3, r3, e3, f3⟩ := run_map_entry_new keyLaw_b Tryz.underlying160 B2 x.base k2 (.pointer none) (zero_item _)
  have C3 := C2.keep_map B2 h.sepM.2.2 f3
  obtain ⟨u4, r4, e4, f4⟩ := run_entry_store 160 e3 k2 (.pointer (some ⟨x.b, 0, none⟩))
  have f34 := f3.trans f4 (fun _ _ h => h)
  have C4 := C2.keep_map B2 h.sepM.2.2 f34
  refine ⟨st1, st2, u1, u2, u3, u4, r1, r2, r3, r4, ?_, ⟨e2.fr f34 h.sepM.1, e4, C4, f34.at N2 (B2.ne N2), ?_⟩⟩
  · rintro u (rfl | rfl | rfl | rfl)
    · exact ⟨(blk3 C1.root).1, (blk3 C1.root).2.1⟩
    · exact ⟨(blk3 C2.root).1, (blk3 C2.root).2.1⟩
    · exact ⟨(blk3 C3.root).1, (blk3 C3.root).2.1⟩
    · exact ⟨(blk3 C4.root).1, (blk3 C4.root).2.1⟩
  · exact ((f0.mono (fun _ _ => False.elim)).trans (f1.trans f2 (fun _ _ h => h)) (fun _ _ h => .inl h)).trans f34 (fun _ _ h => .inr h)

set_option maxRecDepth 100000 in
set_option maxRecDepth 100000 in
set_option maxHeartbeats 8000000 in
theorem put_ok {s : Nat} {L : List It} {F : Nat → Prop} (w : World) (h0 : Is w s L F) (id base cls : Int) (np fu sw : Bool) (hid : 1 ≤ id) (hc : 0 ≤ cls ∧ cls < 68) (hI : ∀ y ∈ L, y.id ≠ id) (hB : ∀ y ∈ L, y.base ≠ base) (hL : L.length ≤ 1000000) :
    Calls Tryz.prog 226 #[.pointer (some ⟨s, 0, none⟩), .int .i64 id, .int .u64 base, .int .i64 cls, .bool np, .bool fu, .bool sw] w fun e w' => e = .returned (.int .i64 0) ∧
      Is w' s (L ++ [⟨w.heap.size, id, base, (cls, np, fu, sw)⟩]) (fun b => F b ∨ w.heap.size ≤ b) ∧ Fr F w w' := by
  obtain ⟨m1, m2, m3, i1, i2, i3, H0, hF⟩ := h0
  have H := Lib.hid H0
  have HF := Lib.hid hF
  obtain ⟨c1, c2, c3⟩ := blk3 H0.core.root
  have n1 : ¬ id < 1 := by omega
  have n2 : ¬ cls < 0 := by omega
  have n3 : ¬ 68 ≤ cls := by omega
  have look := run_id (k := id) H0.ids (H0.find_none hI)
  have look2 := run_base (k := base) H0.bases (H0.at_none hB)
  have hsl := lt_blk H0.core.root
  obtain ⟨st1, st2, u1, u2, u3, u4, r1, r2, r3, r4, hc4, hl⟩ := listed H0 ⟨w.heap.size, id, base, (cls, np, fu, sw)⟩ rfl hI hB
  have LS := Lib.hid hl
  obtain ⟨a1, a2⟩ := hc4 u1 (.inl rfl)
  obtain ⟨b1, b2⟩ := hc4 u2 (.inr (.inl rfl))
  obtain ⟨d1, d2⟩ := hc4 u3 (.inr (.inr (.inl rfl)))
  obtain ⟨e1, e2⟩ := hc4 u4 (.inr (.inr (.inr rfl)))
  have HI := Lib.hid (And.intro hI hB)
  clear H0 hF hid hc hI hB hl hc4 c3
  simp only at r1 r2 r3 r4
  go_enter Tryz.func226, Tryz.ntmps226
  go_wp2_with fail
  unfold It.cells at r1
  go_region
  clear c1 c2 look look2 a1 a2 b1 b2 d1 d2 e1 e2 r1 r2 r3 r4 n1 n2 n3
  obtain ⟨x0, x1, x2, x3, x4, x5⟩ := blk6 LS.out.node
  have c3 := (blk3 LS.out.core.root).2.2
  obtain ⟨r, a, c, hv, hr, ho⟩ := LS.out.core.look (cls, np, fu, sw)
  have hrl : r.length ≤ 1000000 := Nat.le_trans (by rw [row_len hr H.out.core.ndb]; exact List.length_filter_le _ _) hL
  have hp := place_any u4 LS.out.core (cls, np, fu, sw) base r a c hv hr ho hrl
  obtain ⟨pre, post, hsp, hpos, hput⟩ := RowOf.put (x := ⟨w.heap.size, id, base, (cls, np, fu, sw)⟩) hr HI.out.2
  rw [show pos r base = pre.length from hpos] at hp
  have hj : pre.length ≤ r.length := by rw [hsp]; simp
  obtain ⟨j, hjd⟩ : ∃ j, j = pre.length := ⟨_, rfl⟩
  rw [← hjd] at hp hj
  have PD := Lib.hid (And.intro hjd (And.intro hsp hput))
  clear hjd hsp hpos hput
  unfold kenc at hp
  have HP := Lib.hid hp
  have HV := Lib.hid hv
  have HR := Lib.hid hr
  have HO := Lib.hid ho
  clear hp hv hr ho
  simp only at x0 x1 x2 x3 x4 x5
  go_wp2_with (go_at_call 234; refine HP.out.mono ?_; rintro e w5 ⟨rfl, f5⟩; have F5 := Lib.hid f5; clear f5)
  clear x0 x1 x2 x3 x4 x5 c3
  have C5 := Lib.hid (LS.out.core.quiet F5.out)
  have N5 := Lib.hid (F5.out.at LS.out.node (fun x => x))
  have O5 := Lib.hid (ownsRow_keep HO.out F5.out (fun _ _ x => x))
  obtain ⟨x0, x1, x2, x3, x4, x5⟩ := blk6 N5.out
  simp only at x0 x1 x2 x3 x4 x5
  have c3 := (blk3 C5.out.root).2.2
  have look := run_row (w := w5.drew) C5.out.sets HV.out
  have fa : Fr (fun _ => False) w5 (w5.alloc (.cells #[.pointer none] 158)).drew := ((Fr.refl _ w5).alloc _).drew
  have look2 := run_row (C5.out.sets.fr fa (fun x => x)) HV.out
  unfold kenc at look look2
  simp only at look look2
  obtain ⟨i0, hi, hz0, hz1, hz2⟩ := info_parts info_item
  obtain ⟨v6, w6, r6, o6, f6, g6⟩ := run_append_row (P := Tryz.prog) (w := (w5.alloc (.cells #[.pointer none] 158)).drew) 288 288 158 i0 _ 1 8 Tryz.underlying288 hi hz0 hz1 hz2 (by rfl) (by decide)
    (.slice a r.length c) r.length (r.map It.ptr) (ownsRow_keep O5.out fa (fun _ _ x => x)) (.slice (some ⟨w5.heap.size, 0, none⟩) 1 1) 1 [.pointer none]
    (Rd.new (w := (w5.alloc (.cells #[.pointer none] 158)).drew) (t := 158) (vs := [.pointer none]) (by show (w5.alloc _).heap[_]? = _; rw [heap_alloc, if_pos rfl]) 1 1 rfl) (by simp [Value.oneCell']) (by simp only [maxLen]; omega) (by omega)
  obtain ⟨a6, c6, rfl⟩ := ownsRow_form o6
  have G6 := Lib.hid (And.intro f6 g6)
  have O6 := Lib.hid o6
  have FA := Lib.hid fa
  have y3 := cell_through fa c3 (fun x => x)
  have y0 := cell_through fa x2 (fun x => x)
  have y1 := cell_through fa x3 (fun x => x)
  have y2 := cell_through fa x4 (fun x => x)
  have y4 := cell_through fa x5 (fun x => x)
  have hs5 := lt_blk C5.out.root
  have hx5 := lt_blk N5.out
  simp only at hx5
  have P6 := Lib.hid ((C5.out.quiet fa).past HV.out (n' := r.length) f6)
  have hown : ∀ g, (Value.slice a r.length c).ownBlock = some g → g < w.heap.size := fun g hg => by
    obtain ⟨r', _, ho'⟩ := H.out.core.row _ _ (H.out.core.own HV.out hg)
    obtain ⟨cur, hc⟩ := ownsRow_blk ho' hg
    exact lt_blk hc
  have hown := Lib.hid hown
  have N6 := Lib.hid (f6.at (fa.at N5.out (fun x => x)) (fun h => by have := hown.out _ h.symm; simp only at this; omega))
  obtain ⟨z0, z1, z2, z3, z4, z5⟩ := blk6 N6.out
  have t3 := (blk3 P6.out.1).2.2
  simp only at z0 z1 z2 z3 z4 z5
  clear f6 g6 o6 fa x0 x1 z0 z1
  go_wp2_with fail
  go_region_held3 (fun w' => w'.cell? ⟨s, 2, none⟩ = some (.map (some m3)) ∧ w'.cell? ⟨w.heap.size, 2, none⟩ = some (.int .i64 cls) ∧ w'.cell? ⟨w.heap.size, 3, none⟩ = some (.bool np) ∧ w'.cell? ⟨w.heap.size, 4, none⟩ = some (.bool fu) ∧ w'.cell? ⟨w.heap.size, 5, none⟩ = some (.bool sw)) (go_keep) ((refine step_plain (by rfl) (wp_append_row _ _ 288 (by rfl) (by rfl) (by rfl) r6 ?_)))
  all_goals (
    clear look look2 r6 c3 x2 x3 x4 x5 y0 y1 y2 y3 y4
    obtain ⟨g, rfl⟩ := row_some O6.out
    obtain ⟨w7, r7, o7, f7⟩ := run_copy_shift (P := Tryz.prog) (w := w6.drew) 288 3 158 Tryz.underlying288 (by rw [hi]; exact congrArg some hz1) O6.out.drew (j := j) (by omega) (fun v hv => by
      rcases List.mem_append.1 hv with hv | hv
      · obtain ⟨y, _, rfl⟩ := List.mem_map.1 hv; rfl
      · simp at hv; subst hv; rfl)
    have hcap := ownsRow_cap O6.out
    have s1 := run_from 288 158 i0 Tryz.underlying288 hi 1 hz1 (some ⟨g, 0, none⟩) (r.length + 1) c6 .i64 (j + 1) (by omega) hcap
    have s2 := run_from 288 158 i0 Tryz.underlying288 hi 1 hz1 (some ⟨g, 0, none⟩) (r.length + 1) c6 .i64 j (by omega) hcap
    rw [Int.natCast_add, Int.natCast_one] at s1
    generalize sliced (some ⟨g, 0, none⟩) (j + 1) (r.length + 1) c6 1 = sv1 at s1 r7
    generalize sliced (some ⟨g, 0, none⟩) j (r.length + 1) c6 1 = sv2 at s2 r7
    have hA4 : (-9223372036854775808 : Int) ≤ (j : Int) + 1 ∧ (j : Int) + 1 ≤ 9223372036854775807 := by omega
    have hw : IntKind.i64.wrap ((j : Int) + 1) = (j : Int) + 1 := IntWalk.i64_in _ hA4
    clear hA4 hcap
    have O7 := Lib.hid (And.intro o7 f7)
    clear o7 f7
    go_wp2_with fail
    go_region_held3 (fun w' => True) (trivial) ((refine step_plain (by rfl) (wp_copy_run _ _ 288 (by rfl) (by rfl) (by rfl) r7 ?_)))
    clear r7 s1 s2 hw
    have hg : g ≠ s ∧ g ≠ w.heap.size ∧ g ≠ m3 := by
      rcases G6.out.2 g rfl with h1 | h1
      · have hk := H.out.core.own HV.out h1
        obtain ⟨r', _, ho'⟩ := H.out.core.row _ _ hk
        obtain ⟨cur, hc⟩ := ownsRow_blk ho' h1
        exact ⟨(H.out.core.sepR _ _ g hk h1).1, by have := lt_blk hc; omega, H.out.core.sets.ne hc⟩
      · have h2 := C5.out.sets.lt
        have h3 : (w5.alloc (.cells #[.pointer none] 158)).drew.heap.size = w5.heap.size + 1 := by simp
        rw [h3] at h1
        exact ⟨by omega, by omega, by omega⟩
    have HG := Lib.hid hg
    clear hg
    obtain ⟨cur, hcur⟩ := ownsRow_blk O7.out.1 (g := g) rfl
    obtain ⟨vv, hcell⟩ := row_cell O7.out.1 (j := j) (by omega)
    have hfz := free_blk hcur j
    have f8 : Fr (fun b => b = g) w6 (w7.setCell ⟨g, j, none⟩ (.pointer (some ⟨w.heap.size, 0, none⟩))) := ((Fr.refl _ w6).drew.trans O7.out.2 (fun _ _ h => h)).setCell ⟨g, j, none⟩ _ (.inl rfl)
    have R8 := Lib.hid (f8.at P6.out.1 (fun h => HG.out.1 h.symm))
    have N8 := Lib.hid (f8.at N6.out (fun h => HG.out.2.1 h.symm))
    have M8 := P6.out.2.2.fr f8 (fun h => HG.out.2.2 h.symm)
    have O8 := Lib.hid (ownsRow_set O7.out.1 (j := j) (by omega) (.pointer (some ⟨w.heap.size, 0, none⟩)))
    obtain ⟨w9, r9, hm9, f9⟩ := run_map_set (w := (w7.setCell ⟨g, j, none⟩ (.pointer (some ⟨w.heap.size, 0, none⟩))).drew) keyLaw_kind Tryz.underlying161 M8 (cls, np, fu, sw) (.slice (some ⟨g, 0, none⟩) (r.length + 1) c6)
    unfold kenc at r9
    simp only at r9
    have M9 := Lib.hid (And.intro hm9 f9)
    have F8 := Lib.hid f8
    obtain ⟨q0, q1, q2, q3, q4, q5⟩ := blk6 N8.out
    have q6 := (blk3 R8.out).2.2
    simp only at q2 q3 q4 q5
    clear hm9 f9 f8 M8 hcur q0 q1 z2 z3 z4 z5 t3
    go_wp2_with fail
    go_region
    all_goals (
      go_wp2
      go_ret
      have e8 := PD.out.1
      have o8 := O8.out
      rw [e8] at o8 F8
      refine ⟨rfl, put_done (x := ⟨w.heap.size, id, base, (cls, np, fu, sw)⟩) (pre := pre) (post := post) (w8 := w7.setCell ⟨g, pre.length, none⟩ (.pointer (some ⟨w.heap.size, 0, none⟩))) H.out HF.out rfl HI.out.1 HI.out.2 HV.out PD.out.2.2 PD.out.2.1 LS.out.ids LS.out.bases LS.out.fr F5.out FA.out G6.out.1 (G6.out.2 g rfl) F8.out ?_ HG.out.2.1 ?_ M9.out.1 ?_⟩
      · rw [← e8]; exact N8.out
      · exact o8
      · rw [← e8]; exact ⟨M9.out.2.os, M9.out.2.tape, M9.out.2.output, M9.out.2.size, M9.out.2.same⟩))
end Go.Proofs.YtnjaaagiindclaaGreatDoor

/-
  Sets of the call's own: what each word answers.
-/
namespace Go.Proofs.YtnjaaagiindclaaGreatDoor
open Go.RowKit Go.Deep

theorem Is.mono {w : World} {s : Nat} {L : List It} {F G : Nat → Prop} (h : Is w s L F) (hFG : ∀ b, F b → G b) : Is w s L G := by
  obtain ⟨m1, m2, m3, i1, i2, i3, h1, h2⟩ := h
  exact ⟨m1, m2, m3, i1, i2, i3, h1, fun b hb => hFG b (h2 b hb)⟩

theorem Is.quiet {w w' : World} {s : Nat} {L : List It} {F : Nat → Prop} (h : Is w s L F) (hf : Fr (fun _ => False) w w') : Is w' s L F := by
  obtain ⟨m1, m2, m3, i1, i2, i3, h1, h2⟩ := h
  exact ⟨m1, m2, m3, i1, i2, i3, ⟨h1.core.quiet hf, h1.ids.fr hf (fun x => x), h1.bases.fr hf (fun x => x), h1.idsL, h1.basesL, h1.ndI, h1.sepM⟩, h2⟩

/-- sets in blocks from B on; below B the memory is that of w0 -/
structure Own (B s : Nat) (L : List It) (w0 w : World) : Prop where
  is : Is w s L (fun b => B ≤ b)
  fr : Fr (fun b => B ≤ b) w0 w
  le : B ≤ w.heap.size

theorem Own.quiet {B s : Nat} {L : List It} {w0 w w' : World} (h : Own B s L w0 w) (hf : Fr (fun _ => False) w w') : Own B s L w0 w' :=
  ⟨h.is.quiet hf, h.fr.trans hf (fun _ _ => False.elim), Nat.le_trans h.le hf.size⟩

theorem Own.next {B s : Nat} {L L' : List It} {w0 w w' : World} (h : Own B s L w0 w) (hi : Is w' s L' (fun b => B ≤ b ∨ w.heap.size ≤ b)) (hf : Fr (fun b => B ≤ b) w w') : Own B s L' w0 w' :=
  ⟨hi.mono (fun _ hb => hb.elim (fun h => h) (fun h1 => Nat.le_trans h.le h1)), h.fr.trans hf (fun _ _ h => h), Nat.le_trans h.le hf.size⟩

theorem Own.done {s : Nat} {L : List It} {w w' : World} (h : Own w.heap.size s L w w') : Fr (fun _ => False) w w' := h.fr.mono (fun b hb h => by omega)

/-- what Put answers, and what is there then -/
def Puts (L : List It) (id base cls : Int) (np fu sw : Bool) (c : Int) (L' : List It) : Prop :=
  ((id < 1 ∨ cls < 0 ∨ 68 ≤ cls) ∧ c = 1 ∧ L' = L) ∨ ((1 ≤ id ∧ 0 ≤ cls ∧ cls < 68) ∧ (∃ x ∈ L, x.id = id ∨ x.base = base) ∧ c = 34 ∧ L' = L) ∨
  ((1 ≤ id ∧ 0 ≤ cls ∧ cls < 68) ∧ (∀ x ∈ L, x.id ≠ id) ∧ (∀ x ∈ L, x.base ≠ base) ∧ c = 0 ∧ ∃ b, L' = L ++ [⟨b, id, base, (cls, np, fu, sw)⟩])

theorem put_any {B s : Nat} {L : List It} {w0 w : World} (h : Own B s L w0 w) (id base cls : Int) (np fu sw : Bool) (hL : L.length ≤ 1000000) :
    Calls Tryz.prog 226 #[.pointer (some ⟨s, 0, none⟩), .int .i64 id, .int .u64 base, .int .i64 cls, .bool np, .bool fu, .bool sw] w fun e w' =>
      ∃ c L', e = .returned (.int .i64 c) ∧ Hid (Own B s L' w0 w' ∧ Puts L id base cls np fu sw c L') := by
  by_cases h1 : id < 1 ∨ cls < 0 ∨ 68 ≤ cls
  · refine (put_arg s w id base cls np fu sw h1).mono fun e w' ⟨he, hw⟩ => ?_
    subst hw
    exact ⟨1, L, he, Lib.hid ⟨h, .inl ⟨h1, rfl, rfl⟩⟩⟩
  · by_cases h2 : ∃ x ∈ L, x.id = id ∨ x.base = base
    · refine (put_twice w h.is id base cls np fu sw (by omega) (by omega) h2).mono fun e w' ⟨he, hw⟩ => ?_
      subst hw
      exact ⟨34, L, he, Lib.hid ⟨h, .inr (.inl ⟨by omega, h2, rfl, rfl⟩)⟩⟩
    · have hI : ∀ y ∈ L, y.id ≠ id := fun y hy he => h2 ⟨y, hy, .inl he⟩
      have hB : ∀ y ∈ L, y.base ≠ base := fun y hy he => h2 ⟨y, hy, .inr he⟩
      refine (put_ok w h.is id base cls np fu sw (by omega) (by omega) hI hB hL).mono fun e w' ⟨he, hi, hf⟩ => ?_
      exact ⟨0, _, he, Lib.hid ⟨h.next hi hf, .inr (.inr ⟨by omega, hI, hB, rfl, _, rfl⟩)⟩⟩

theorem takes {B s : Nat} {L : List It} {w0 w : World} (h : Own B s L w0 w) (k1 : Int) (k2 k3 k4 : Bool) (hL : L.length ≤ 1000000) :
    Calls Tryz.prog 248 #[.pointer (some ⟨s, 0, none⟩), .int .i64 k1, .bool k2, .bool k3, .bool k4] w fun e w' =>
      ∃ id ok L', e = .returned (.tuple #[.int .i64 id, .bool ok]) ∧ Hid (Own B s L' w0 w' ∧ Took L (k1, k2, k3, k4) id ok L') :=
  (take_any w h.is k1 k2 k3 k4 hL).mono fun _ _ ⟨id, ok, L', he, ht, hi, hf⟩ => ⟨id, ok, L', he, Lib.hid ⟨h.next hi hf, ht⟩⟩

/-- what Remove answers, and what is left -/
def Removes (L : List It) (id : Int) (c : Int) (L' : List It) : Prop :=
  (c = 35 ∧ L' = L ∧ ∀ x ∈ L, x.id ≠ id) ∨ (c = 0 ∧ (∃ x ∈ L, x.id = id) ∧ L' = L.filter (fun y => decide (y.id ≠ id)))

theorem removes {B s : Nat} {L : List It} {w0 w : World} (h : Own B s L w0 w) (id : Int) (hL : L.length ≤ 1000000) :
    Calls Tryz.prog 178 #[.pointer (some ⟨s, 0, none⟩), .int .i64 id] w fun e w' => ∃ c L', e = .returned (.int .i64 c) ∧ Hid (Own B s L' w0 w' ∧ Removes L id c L') := by
  by_cases hx : ∃ x ∈ L, x.id = id
  · obtain ⟨x, hx, rfl⟩ := hx
    exact (remove_ok w h.is x hx hL).mono fun e w' ⟨he, hi, hf⟩ => ⟨0, _, he, Lib.hid ⟨h.next hi hf, .inr ⟨rfl, ⟨x, hx, rfl⟩, rfl⟩⟩⟩
  · obtain ⟨m1, m2, m3, i1, i2, i3, h1, h2⟩ := h.is
    refine (remove_none w h1 id (fun y hy he => hx ⟨y, hy, he⟩)).mono fun e w' ⟨he, hw⟩ => ?_
    subst hw
    exact ⟨35, L, he, Lib.hid ⟨h, .inl ⟨rfl, rfl, fun y hy he => hx ⟨y, hy, he⟩⟩⟩⟩

theorem counts {B s : Nat} {L : List It} {w0 w : World} (h : Own B s L w0 w) (b : Bool) (hL : L.length ≤ 1000000) :
    Calls Tryz.prog 129 #[.pointer (some ⟨s, 0, none⟩), .bool b] w fun e w' => e = .returned (.int .i64 (num L b)) ∧ Hid (Own B s L w0 w') := by
  obtain ⟨m1, m2, m3, i1, i2, i3, h1, h2⟩ := id h.is
  exact (count_any w h1.core b hL).mono fun e w' ⟨he, hf⟩ => ⟨he, Lib.hid (h.quiet hf)⟩

theorem leasts {B s : Nat} {L : List It} {w0 w : World} (h : Own B s L w0 w) (hL : L.length ≤ 1000000) :
    Calls Tryz.prog 177 #[.pointer (some ⟨s, 0, none⟩)] w fun e w' => ∃ id ok, e = .returned (.tuple #[.int .i64 id, .bool ok]) ∧ Hid (Own B s L w0 w' ∧ Leasts L id ok) := by
  obtain ⟨m1, m2, m3, i1, i2, i3, h1, h2⟩ := id h.is
  exact (least_any w h1.core hL).mono fun e w' ⟨id, ok, he, hl, hf⟩ => ⟨id, ok, he, Lib.hid ⟨h.quiet hf, hl⟩⟩

theorem news (w : World) : Calls Tryz.prog 44 #[] w fun e w' => ∃ s, e = .returned (.pointer (some ⟨s, 0, none⟩)) ∧ Hid (Own w.heap.size s [] w w') :=
  (new_any w).mono fun _ _ ⟨s, he, hi, hf⟩ => ⟨s, he, Lib.hid ⟨hi, hf.mono (fun _ _ => False.elim), hf.size⟩⟩
end Go.Proofs.YtnjaaagiindclaaGreatDoor

/-
  A new generation: what was swept is so no more.
-/
namespace Go.Proofs.YtnjaaagiindclaaGreatDoor
open Go.RowKit Go.Deep

theorem flip_busy {s : Nat} {L : List It} {F : Nat → Prop} (w : World) (h0 : Is w s L F) (hL : L.length ≤ 1000000) (hn : 0 < num L false) :
    Calls Tryz.prog 184 #[.pointer (some ⟨s, 0, none⟩)] w fun e w' => e = .returned (.int .i64 33) ∧ Fr (fun _ => False) w w' := by
  obtain ⟨m1, m2, m3, i1, i2, i3, h, hF⟩ := h0
  have C := Lib.hid (count_any w h.core false hL)
  have hle : num L false ≤ 1000000 := Nat.le_trans (List.length_filter_le _ _) hL
  clear h hF
  generalize num L false = n at *
  go_enter Tryz.func184, Tryz.ntmps184
  go_wp2_with (go_at_call 129; refine C.out.mono ?_; rintro e w1 ⟨rfl, O1⟩; have O2 := Lib.hid O1; clear O1)
  go_ret
  exact ⟨rfl, O2.out⟩

/-- a span of the new generation -/
def It.turned (x : It) : It := ⟨x.b, x.id, x.base, (x.kd.1, x.kd.2.1, x.kd.2.2.1, false)⟩
def turnk (k : Kd) : Kd := (k.1, k.2.1, k.2.2.1, false)

theorem turnk_inj {k k' : Kd} (h : k.2.2.2 = true) (h' : k'.2.2.2 = true) (he : turnk k = turnk k') : k = k' := by
  obtain ⟨a, b, c, d⟩ := k
  obtain ⟨a', b', c', d'⟩ := k'
  simp only [turnk, Prod.mk.injEq] at *
  simp_all

theorem RowOf.turned {L r : List It} {k : Kd} (hall : ∀ x ∈ L, x.kd.2.2.2 = true) (hk : k.2.2.2 = true) (h : RowOf L k r) : RowOf (L.map It.turned) (turnk k) (r.map It.turned) := by
  refine ⟨?_, fun y => ?_⟩
  · rw [List.pairwise_map]
    exact h.ord
  · simp only [List.mem_map]
    constructor
    · rintro ⟨x, hx, rfl⟩
      obtain ⟨h1, h2⟩ := (h.mem x).1 hx
      exact ⟨⟨x, h1, rfl⟩, by rw [← h2]; rfl⟩
    · rintro ⟨⟨x, hx, rfl⟩, he⟩
      exact ⟨x, (h.mem x).2 ⟨hx, turnk_inj (hall x hx) hk he⟩, rfl⟩

theorem ptr_turned (r : List It) : (r.map It.turned).map It.ptr = r.map It.ptr := by
  rw [List.map_map]; rfl

theorem swept_all {L : List It} (h : num L false = 0) : ∀ x ∈ L, x.kd.2.2.2 = true := fun x hx => by
  unfold num at h
  have := List.filter_eq_nil_iff.1 (List.eq_nil_of_length_eq_zero h) x hx
  simpa using this

/-- a span's record as it stands: of the new generation, if its kind has been met, or it is among those of bs -/
def half (D : List Kd) (bs : List Nat) (x : It) : It := if x.kd ∈ D ∨ x.b ∈ bs then x.turned else x

/-- where the walk of Flip stands: the kinds D have been turned -/
structure Turning (w0 w : World) (m3 mt it : Nat) (i3 t3 : List (Kd × Value)) (L : List It) (D : List Kd) (k : Nat) : Prop where
  iter : Iter kenc w it m3 i3 D
  nd : D.Nodup
  sub : ∀ p ∈ D, p ∈ i3.map (·.1)
  len : D.length + k = i3.length
  new : MapIs kenc w mt t3
  node : ∀ x ∈ L, w.heap[x.b]? = some (.cells (half D [] x).cells 167 (0, 0))
  has : ∀ q v, (q, v) ∈ t3 ↔ ∃ p, p ∈ D ∧ (p, v) ∈ i3 ∧ q = turnk p ∧ ∃ x ∈ L, x.kd = p
  fr : Fr (fun b => ∃ x ∈ L, b = x.b) w0 w

/-- within a row r of kind p: its first j have been turned -/
structure Mid (w0 w : World) (m3 mt it : Nat) (i3 t3 : List (Kd × Value)) (L : List It) (D : List Kd) (p : Kd) (r : List It) (j : Nat) : Prop where
  iter : Iter kenc w it m3 i3 (p :: D)
  new : MapIs kenc w mt t3
  node : ∀ x ∈ L, w.heap[x.b]? = some (.cells (half D ((r.take j).map (·.b)) x).cells 167 (0, 0))
  fr : Fr (fun b => ∃ x ∈ L, b = x.b) w0 w

theorem Turning.into {w0 w w' : World} {m3 mt it k : Nat} {i3 t3 : List (Kd × Value)} {L r : List It} {D : List Kd} {p : Kd} (h : Turning w0 w m3 mt it i3 t3 L D k) (hit : w0.heap.size ≤ it) (hmt : mt ≠ it)
    (hL : ∀ x ∈ L, x.b < w0.heap.size) (hi : Iter kenc w' it m3 i3 (p :: D)) (hf : Fr (fun b => b = it) w w') : Mid w0 w' m3 mt it i3 t3 L D p r 0 :=
  ⟨hi, h.new.fr hf hmt, fun x hx => hf.at (h.node x hx) (fun e => by have := hL x hx; omega), h.fr.trans hf (fun b hb e => by omega)⟩

theorem Mid.quiet {w0 w w' : World} {m3 mt it j : Nat} {i3 t3 : List (Kd × Value)} {L r : List It} {D : List Kd} {p : Kd} (h : Mid w0 w m3 mt it i3 t3 L D p r j) (hf : Fr (fun _ => False) w w') : Mid w0 w' m3 mt it i3 t3 L D p r j :=
  ⟨h.iter.fr hf (fun x => x) (fun x => x), h.new.fr hf (fun x => x), fun x hx => hf.at (h.node x hx) (fun x => x), h.fr.trans hf (fun _ _ x => x.elim)⟩

theorem b_inj {L : List It} (h : (L.map (·.b)).Nodup) {x y : It} (hx : x ∈ L) (hy : y ∈ L) (e : x.b = y.b) : x = y := by
  obtain ⟨i, hi⟩ := List.mem_iff_getElem?.1 hx
  obtain ⟨j, hj⟩ := List.mem_iff_getElem?.1 hy
  have := nodup_inj h (i := i) (j := j) (a := y.b) (by rw [List.getElem?_map, hi]; simp [e]) (by rw [List.getElem?_map, hj]; rfl)
  subst this
  rw [hi] at hj; simpa using hj

theorem Mid.step {w0 w w' : World} {m3 mt it j : Nat} {i3 t3 : List (Kd × Value)} {L r : List It} {D : List Kd} {p : Kd} {x : It} (h : Mid w0 w m3 mt it i3 t3 L D p r j) (hn : (L.map (·.b)).Nodup) (hr : RowOf L p r) (hx : r[j]? = some x)
    (hL : ∀ x ∈ L, x.b ≠ it ∧ x.b ≠ mt ∧ x.b ≠ m3) (hf : Fr (fun b => b = x.b) w w') (hw : w'.heap[x.b]? = some (.cells x.turned.cells 167 (0, 0))) : Mid w0 w' m3 mt it i3 t3 L D p r (j + 1) := by
  have hxr := List.mem_of_getElem? hx
  have hxL : x ∈ L := ((hr.mem x).1 hxr).1
  obtain ⟨n1, n2, n3⟩ := hL x hxL
  have htake : r.take (j + 1) = r.take j ++ [x] := by rw [List.take_add_one, hx]; rfl
  refine ⟨h.iter.fr hf n1.symm n3.symm, h.new.fr hf n2.symm, fun y hy => ?_, h.fr.trans hf (fun b _ e => ⟨x, hxL, e⟩)⟩
  by_cases hyx : y = x
  · subst hyx
    have : half D ((r.take (j + 1)).map (·.b)) y = y.turned := by unfold half; rw [if_pos]; right; rw [htake]; simp
    rw [this]; exact hw
  · have hne : y.b ≠ x.b := fun e => hyx (b_inj hn hy hxL e)
    have : half D ((r.take (j + 1)).map (·.b)) y = half D ((r.take j).map (·.b)) y := by
      unfold half
      rw [htake]
      simp [hne]
    rw [this]
    exact hf.at (h.node y hy) hne

theorem half_row {L r : List It} {D : List Kd} {p : Kd} (hn : (L.map (·.b)).Nodup) (hr : RowOf L p r) {x : It} (hx : x ∈ L) : half D (r.map (·.b)) x = half (p :: D) [] x := by
  unfold half
  have : (x.kd ∈ D ∨ x.b ∈ r.map (·.b)) ↔ (x.kd ∈ p :: D ∨ x.b ∈ ([] : List Nat)) := by
    simp only [List.mem_cons, List.mem_map, List.not_mem_nil, or_false]
    constructor
    · rintro (h | ⟨y, hy, e⟩)
      · exact .inr h
      · have hyL := (hr.mem y).1 hy
        have := b_inj hn hyL.1 hx e
        subst this
        exact .inl hyL.2
    · rintro (h | h)
      · exact .inr ⟨x, (hr.mem x).2 ⟨hx, h⟩, rfl⟩
      · exact .inl h
  by_cases h : x.kd ∈ D ∨ x.b ∈ r.map (·.b)
  · rw [if_pos h, if_pos (this.1 h)]
  · rw [if_neg h, if_neg (fun e => h (this.2 e))]

theorem Turning.out {w0 w w1 w' : World} {m3 mt it k : Nat} {i3 t3 : List (Kd × Value)} {L r : List It} {D : List Kd} {p : Kd} {v : Value} (h : Turning w0 w m3 mt it i3 t3 L D k) (hp : (p, v) ∈ i3) (hpd : p ∉ D) (hn : (L.map (·.b)).Nodup) (hr : RowOf L p r)
    (hS : ∀ x ∈ L, x.kd.2.2.2 = true) (hm : Mid w0 w1 m3 mt it i3 t3 L D p r r.length) (h0 : 0 < r.length) (h3 : m3 ≠ mt) (hit : it ≠ mt) (hmt : w0.heap.size ≤ mt) (hL : ∀ x ∈ L, x.b < w0.heap.size)
    (hf : Fr (fun b => b = mt) w1 w') (hw : MapIs kenc w' mt (mapSet t3 (turnk p) v)) : Turning w0 w' m3 mt it i3 (mapSet t3 (turnk p) v) L (p :: D) (i3.length - D.length - 1) ∧ i3.length - D.length - 1 < k := by
  have nd := List.nodup_cons.2 ⟨hpd, h.nd⟩
  have sub : ∀ q ∈ p :: D, q ∈ i3.map (·.1) := by
    intro q hq
    rcases List.mem_cons.1 hq with rfl | hq
    · exact List.mem_map.2 ⟨(q, v), hp, rfl⟩
    · exact h.sub q hq
  have hl := nodup_le nd h.iter.map.nodup sub
  have hlen := h.len
  simp only [List.length_cons, List.length_map] at hl
  obtain ⟨x, hx⟩ := List.exists_mem_of_length_pos h0
  have hxL := (hr.mem x).1 hx
  have hps : p.2.2.2 = true := by rw [← hxL.2]; exact hS x hxL.1
  have hi3 := h.iter.map.nodup
  refine ⟨⟨hm.iter.fr hf hit h3, nd, sub, by simp only [List.length_cons]; omega, hw, fun y hy => ?_, fun q u => ?_, hm.fr.trans hf (fun b hb e => by omega)⟩, by omega⟩
  · have := hm.node y hy
    rw [List.take_length, half_row hn hr hy] at this
    exact hf.at this (fun e => by have := hL y hy; omega)
  · rw [mem_mapSet h.new.nodup]
    simp only [Prod.mk.injEq]
    rw [h.has]
    constructor
    · rintro (⟨rfl, rfl⟩ | ⟨hq, p', hp', h1, h2, h3⟩)
      · exact ⟨p, by simp, hp, rfl, x, hxL⟩
      · exact ⟨p', List.mem_cons_of_mem _ hp', h1, h2, h3⟩
    · rintro ⟨p', hp', h1, rfl, y, hy, hyk⟩
      rcases List.mem_cons.1 hp' with rfl | hp2
      · left
        refine ⟨rfl, ?_⟩
        have e1 := (mapGet_some hi3).2 h1
        have e2 := (mapGet_some hi3).2 hp
        rw [e1] at e2
        simpa using e2
      · right
        refine ⟨fun e => ?_, p', hp2, h1, rfl, y, hy, hyk⟩
        have : p' = p := turnk_inj (by rw [← hyk]; exact hS y hy) hps e
        exact hpd (this ▸ hp2)

theorem Turning.none {w0 w w1 : World} {m3 mt it k : Nat} {i3 t3 : List (Kd × Value)} {L : List It} {D : List Kd} {p : Kd} {v : Value} (h : Turning w0 w m3 mt it i3 t3 L D k) (hp : (p, v) ∈ i3) (hpd : p ∉ D) (hn : (L.map (·.b)).Nodup) (hr : RowOf L p [])
    (hm : Mid w0 w1 m3 mt it i3 t3 L D p [] 0) : Turning w0 w1 m3 mt it i3 t3 L (p :: D) (i3.length - D.length - 1) ∧ i3.length - D.length - 1 < k := by
  have nd := List.nodup_cons.2 ⟨hpd, h.nd⟩
  have sub : ∀ q ∈ p :: D, q ∈ i3.map (·.1) := by
    intro q hq
    rcases List.mem_cons.1 hq with rfl | hq
    · exact List.mem_map.2 ⟨(q, v), hp, rfl⟩
    · exact h.sub q hq
  have hl := nodup_le nd h.iter.map.nodup sub
  have hlen := h.len
  simp only [List.length_cons, List.length_map] at hl
  refine ⟨⟨hm.iter, nd, sub, by simp only [List.length_cons]; omega, hm.new, fun y hy => ?_, fun q u => ?_, hm.fr⟩, by omega⟩
  · have := hm.node y hy
    rw [List.take_nil, half_row hn hr hy] at this
    exact this
  · rw [h.has]
    constructor
    · rintro ⟨p', hp', h⟩; exact ⟨p', List.mem_cons_of_mem _ hp', h⟩
    · rintro ⟨p', hp', h1, h2, y, hy, hyk⟩
      rcases List.mem_cons.1 hp' with rfl | hp'
      · have := (hr.mem y).2 ⟨hy, hyk⟩; simp at this
      · exact ⟨p', hp', h1, h2, y, hy, hyk⟩

/-- all kinds have been turned, and the new map is the sets' -/
theorem flipped {w w1 wr w' : World} {s m1 m2 m3 mt it k : Nat} {i1 i2 : List (Int × Value)} {i3 t3 : List (Kd × Value)} {L : List It} {D : List Kd} {F : Nat → Prop} (H : Sets w s m1 m2 m3 i1 i2 i3 L) (hF : ∀ b, sfp s m1 m2 m3 i3 L b → F b)
    (hS : ∀ x ∈ L, x.kd.2.2.2 = true) (F1 : Fr (fun _ => False) w w1) (T : Turning w1 wr m3 mt it i3 t3 L D k) (hmt : w1.heap.size ≤ mt) (hall : ∀ p ∈ i3, p.1 ∈ D) (F2 : Fr (fun b => b = s) wr w')
    (hroot : w'.heap[s]? = some (.cells #[.map (some m1), .map (some m2), .map (some mt)] 163 (0, 0))) : Is w' s (L.map It.turned) (fun b => F b ∨ w.heap.size ≤ b) ∧ Fr F w w' := by
  have g1 : Fr (fun b => ∃ x ∈ L, b = x.b) w wr := (F1.mono (fun _ _ => False.elim)).trans T.fr (fun _ _ h => h)
  have g2 : Fr (fun b => (∃ x ∈ L, b = x.b) ∨ b = s) w w' := (g1.mono (fun _ _ h => .inl h)).trans F2 (fun _ _ h => .inr h)
  have hsz := F1.size
  have hsl := lt_blk H.core.root
  have hD : ∀ x ∈ L, x.kd ∈ D := fun x hx => by
    obtain ⟨p, hp, he⟩ := List.mem_map.1 (H.core.all x hx)
    rw [← he]; exact hall p hp
  have hm1 : ¬ ((∃ x ∈ L, m1 = x.b) ∨ m1 = s) := by
    rintro (⟨x, hx, e⟩ | e)
    · exact H.ids.ne (H.core.node x hx) e.symm
    · exact H.ids.ne H.core.root e.symm
  have hm2 : ¬ ((∃ x ∈ L, m2 = x.b) ∨ m2 = s) := by
    rintro (⟨x, hx, e⟩ | e)
    · exact H.bases.ne (H.core.node x hx) e.symm
    · exact H.bases.ne H.core.root e.symm
  have hids := H.ids.lt
  have hbases := H.bases.lt
  have hrow : ∀ q v, (q, v) ∈ t3 → ∃ p, p.2.2.2 = true ∧ (p, v) ∈ i3 ∧ q = turnk p := fun q v hm => by
    obtain ⟨p, _, h2, h3, x, hx, he⟩ := (T.has q v).1 hm
    exact ⟨p, by rw [← he]; exact hS x hx, h2, h3⟩
  have hmem : ∀ y, y ∈ L.map It.turned → ∃ x ∈ L, x.turned = y := fun y hy => List.mem_map.1 hy
  refine ⟨⟨m1, m2, mt, i1, i2, t3, ⟨⟨hroot, T.new.fr F2 (fun e => by omega), fun y hy => ?_, ?_, ?_, fun q v hm => ?_, fun y hy => ?_, fun y hy => ?_, fun q v g hm hg => ?_, fun q v q' v' g hm hm' hg hg' => ?_⟩,
    H.ids.fr g2 hm1, H.bases.fr g2 hm2, fun z v => ?_, fun z v => ?_, ?_, ⟨H.sepM.1, by omega, by omega⟩⟩, fun b hb => ?_⟩, g2.mono (fun b _ hb => hF b ?_)⟩
  · obtain ⟨x, hx, rfl⟩ := hmem y hy
    have := T.node x hx
    have hh : half D [] x = x.turned := by unfold half; rw [if_pos (.inl (hD x hx))]
    rw [hh] at this
    exact F2.at this (fun e => H.core.sepS x hx e)
  · rw [List.map_map]; exact H.core.ndb
  · rw [List.map_map]; exact H.core.ndB
  · obtain ⟨p, hps, hp, rfl⟩ := hrow q v hm
    obtain ⟨r, hr, ho⟩ := H.core.row p v hp
    refine ⟨r.map It.turned, hr.turned hS hps, ?_⟩
    rw [ptr_turned, List.length_map]
    refine ownsRow_keep ho g2 (fun g hg => ?_)
    rintro (⟨x, hx, e⟩ | e)
    · exact (H.core.sepR p v g hp hg).2 x hx e
    · exact (H.core.sepR p v g hp hg).1 e
  · obtain ⟨x, hx, rfl⟩ := hmem y hy
    obtain ⟨⟨p, v⟩, hp, he⟩ := List.mem_map.1 (H.core.all x hx)
    simp only at he
    subst he
    exact List.mem_map.2 ⟨(turnk x.kd, v), (T.has _ _).2 ⟨x.kd, hD x hx, hp, rfl, x, hx, rfl⟩, rfl⟩
  · obtain ⟨x, hx, rfl⟩ := hmem y hy
    exact H.core.sepS x hx
  · obtain ⟨p, _, hp, _⟩ := hrow q v hm
    refine ⟨(H.core.sepR p v g hp hg).1, fun y hy => ?_⟩
    obtain ⟨x, hx, rfl⟩ := hmem y hy
    exact (H.core.sepR p v g hp hg).2 x hx
  · obtain ⟨p, _, hp, rfl⟩ := hrow q v hm
    obtain ⟨p', _, hp', rfl⟩ := hrow q' v' hm'
    rw [H.core.sepK p v p' v' g hp hp' hg hg']
  · rw [H.idsL]
    constructor
    · rintro ⟨x, hx, h1, h2⟩; exact ⟨x.turned, List.mem_map_of_mem hx, h1, h2⟩
    · rintro ⟨y, hy, h1, h2⟩
      obtain ⟨x, hx, rfl⟩ := hmem y hy
      exact ⟨x, hx, h1, h2⟩
  · rw [H.basesL]
    constructor
    · rintro ⟨x, hx, h1, h2⟩; exact ⟨x.turned, List.mem_map_of_mem hx, h1, h2⟩
    · rintro ⟨y, hy, h1, h2⟩
      obtain ⟨x, hx, rfl⟩ := hmem y hy
      exact ⟨x, hx, h1, h2⟩
  · rw [List.map_map]; exact H.ndI
  · rcases hb with hb | hb | hb | hb | ⟨y, hy, hb⟩ | ⟨q, v, hm, hb⟩
    · exact .inl (hF b (.inl hb))
    · exact .inl (hF b (.inr (.inl hb)))
    · exact .inl (hF b (.inr (.inr (.inl hb))))
    · exact .inr (by omega)
    · obtain ⟨x, hx, rfl⟩ := hmem y hy
      exact .inl (hF b (.inr (.inr (.inr (.inr (.inl ⟨x, hx, hb⟩))))))
    · obtain ⟨p, _, hp, _⟩ := hrow q v hm
      exact .inl (hF b (.inr (.inr (.inr (.inr (.inr ⟨p, v, hp, hb⟩))))))
  · rcases hb with ⟨x, hx, e⟩ | e
    · exact .inr (.inr (.inr (.inr (.inl ⟨x, hx, e⟩))))
    · exact .inl e
end Go.Proofs.YtnjaaagiindclaaGreatDoor

/-
  A new generation: the walk.
-/
namespace Go.Proofs.YtnjaaagiindclaaGreatDoor
open Go.RowKit Go.Deep

/-- a pointer in a row -/
theorem row_ptr {w : World} {T c : Nat} {a : Option Addr} {r : List It} {j : Nat} {x : It} (h : w.ownsRow 0 T 1 (.slice a r.length c) r.length (r.map It.ptr)) (hj : r[j]? = some x) :
    ∃ g, a = some ⟨g, 0, none⟩ ∧ w.cell? ⟨g, j, none⟩ = some (.pointer (some ⟨x.b, 0, none⟩)) := by
  have hlt : j < r.length := (List.getElem?_eq_some_iff.1 hj).1
  rcases h.2 with ⟨h1, h2⟩ | ⟨g, cap, cur, hv, _⟩
  · simp only [Value.slice.injEq] at h1
    have := h1.2.1; omega
  · simp only [Value.slice.injEq] at hv
    obtain ⟨rfl, _, rfl⟩ := hv
    refine ⟨g, rfl, ?_⟩
    have := World.ownsRow.cells h (by rfl) j x.ptr (by rw [List.getElem?_map, hj]; rfl)
    have hadd : (⟨g, 0, none⟩ : Addr).add j = ⟨g, j, none⟩ := by unfold Addr.add; split <;> simp_all
    rw [hadd] at this
    exact this

theorem turned_cells {w : World} {x : It} {D : List Kd} {bs : List Nat} {k1 : Int} {k2 k3 k4 : Bool} (h : w.heap[x.b]? = some (.cells (half D bs x).cells 167 (0, 0))) (hk : x.kd = (k1, k2, k3, k4)) :
    Fr (fun b => b = x.b) w ((((w.setCell ⟨x.b, 2, none⟩ (.int .i64 k1)).setCell ⟨x.b, 3, none⟩ (.bool k2)).setCell ⟨x.b, 4, none⟩ (.bool k3)).setCell ⟨x.b, 5, none⟩ (.bool false)) ∧
    ((((w.setCell ⟨x.b, 2, none⟩ (.int .i64 k1)).setCell ⟨x.b, 3, none⟩ (.bool k2)).setCell ⟨x.b, 4, none⟩ (.bool k3)).setCell ⟨x.b, 5, none⟩ (.bool false)).heap[x.b]? = some (.cells x.turned.cells 167 (0, 0)) := by
  have e : (half D bs x).id = x.id ∧ (half D bs x).base = x.base := by unfold half; split <;> exact ⟨rfl, rfl⟩
  refine ⟨((((Fr.refl (fun b => b = x.b) w).setCell ⟨x.b, 2, none⟩ _ (.inl rfl)).setCell ⟨x.b, 3, none⟩ _ (.inl rfl)).setCell ⟨x.b, 4, none⟩ _ (.inl rfl)).setCell ⟨x.b, 5, none⟩ _ (.inl rfl), ?_⟩
  rw [heap_setCell_at (heap_setCell_at (heap_setCell_at (heap_setCell_at h)))]
  unfold It.cells
  rw [e.1, e.2]
  simp [It.turned, hk]

set_option maxRecDepth 100000 in
set_option maxHeartbeats 8000000 in
theorem flip_ok {s : Nat} {L : List It} {F : Nat → Prop} (w : World) (h0 : Is w s L F) (hL : L.length ≤ 1000000) (hn : num L false = 0) :
    Calls Tryz.prog 184 #[.pointer (some ⟨s, 0, none⟩)] w fun e w' => e = .returned (.int .i64 0) ∧ Is w' s (L.map It.turned) (fun b => F b ∨ w.heap.size ≤ b) ∧ Fr F w w' := by
  obtain ⟨m1, m2, m3, i1, i2, i3, h, hF⟩ := h0
  have hc := count_any w h.core false hL
  rw [hn] at hc
  have HC := Lib.hid hc
  have H := Lib.hid h
  have HF := Lib.hid hF
  have HS := Lib.hid (swept_all hn)
  clear h hF hc hn
  go_enter Tryz.func184, Tryz.ntmps184
  go_wp2_with (first | (go_at_call 129; refine HC.out.mono ?_; rintro e w1 ⟨rfl, f1⟩; have F1 := Lib.hid f1; clear f1; have C1 := Lib.hid (H.out.core.quiet F1.out); have c3 := (blk3 C1.out.root).2.2; have hsl := lt_blk C1.out.root; have M1 := Lib.hid (C1.out.sets.fr (S := fun _ => False) ((Fr.refl _ w1).alloc (.map #[] 0)) (fun x => x))) | (refine wpList_make_map (by rfl) _ (by rfl) ?_) | (refine wpList_iter_new (by rfl) Tryz.underlying161 _ (by rfl) M1.out (by rfl) ?_; intro oo hit; go_simp))
  have hne : w1.heap.size + 1 ≠ m3 := by have := C1.out.sets.lt; omega
  go_loopg [] i3.length (fun k wr => ∃ (D : List Kd) (t3 : List (Kd × Value)), Hid (Turning w1 wr m3 w1.heap.size (w1.heap.size + 1) i3 t3 L D k))
  case atStart =>
    refine ⟨[], [], Lib.hid ⟨?_, by simp, by simp, by simp, ?_, fun x hx => ?_, by simp, ((Fr.refl _ w1).alloc _).alloc _⟩⟩
    · simpa using hit
    · exact MapIs.new _ (by rw [heap_alloc, if_neg (by simp), heap_alloc, if_pos rfl])
    · have hf : Fr (fun _ => False) w1 ((w1.alloc (.map #[] 0)).alloc oo) := ((Fr.refl _ w1).alloc _).alloc _
      simpa [half] using hf.at (C1.out.node x hx) (fun x => x)
  case round =>
    obtain ⟨D, t3, HT⟩ := hrel
    clear hit
    rcases run_iter_next (P := Tryz.prog) HT.out.iter hne 0 with ⟨hall, hr⟩ | ⟨⟨⟨pk1, pk2, pk3, pk4⟩, pv⟩, hp, hpd, wn, hr, hk1, hk2, hk3⟩
    · have hrs : wr.heap[s]? = some (.cells #[.map (some m1), .map (some m2), .map (some m3)] 163 (0, 0)) := HT.out.fr.at C1.out.root (fun ⟨x, hx, he⟩ => C1.out.sepS x hx he.symm)
      have q3 := (blk3 hrs).2.2
      have q4 := free_blk hrs 2
      have HR := Lib.hid hrs
      have HA := Lib.hid hall
      clear c3 hrs hall
      go_wp2_with (refine wpList_next_run (by rfl) _ (by rfl) (by rfl) hr ?_; clear hr)
      go_ret
      refine ⟨rfl, flipped H.out HF.out HS.out F1.out HT.out (Nat.le_refl _) HA.out ((Fr.refl _ wr).setCell _ _ (.inl rfl)) ?_⟩
      rw [heap_setCell_at HR.out]
      rfl
    · obtain ⟨r, hro, how⟩ := C1.out.row _ _ hp
      obtain ⟨ra, rc, rfl⟩ := ownsRow_form how
      have hsl1 := lt_blk C1.out.root
      have hb : ∀ x ∈ L, x.b < w1.heap.size := fun x hx => lt_blk (C1.out.node x hx)
      have hit1 : Fr (fun b => b = w1.heap.size + 1) wr wn := hk2
      have M0 := Lib.hid (HT.out.into (r := r) (Nat.le_succ _) (by omega) hb hk1 hk2)
      have HP := Lib.hid (And.intro hp (And.intro hpd (And.intro hro how)))
      have hrl : r.length ≤ 1000000 := Nat.le_trans (by rw [row_len hro C1.out.ndb]; exact List.length_filter_le _ _) hL
      have HB := Lib.hid hb
      have hsz : w1.heap.size ≤ wn.heap.size := M0.out.fr.size
      have HZ := Lib.hid hsz
      clear hp hpd hro how hk1 hk2 hit1 hb hsz
      simp only [kenc] at hr hk3
      go_wp2_with (first | (refine wpList_next_run (by rfl) _ (by rfl) (by rfl) hr ?_; clear hr) | (refine wpList_entry (by rfl) _ (by rfl) (by rfl) hk3 ?_; clear hk3))
      have hwk : (wn.alloc (.cells #[.int .i64 pk1, .bool pk2, .bool pk3, .bool false] 165)).heap[wn.heap.size]? = some (.cells #[.int .i64 pk1, .bool pk2, .bool pk3, .bool false] 165 (0, 0)) := by rw [heap_alloc, if_pos rfl]
      have K0 := Lib.hid hwk
      have M1' := Lib.hid (M0.out.quiet ((Fr.refl _ wn).alloc (.cells #[.int .i64 pk1, .bool pk2, .bool pk3, .bool false] 165)))
      clear hwk M0
      go_loopg [25] r.length (fun k i wi => ∃ j : Nat, i = .int .i64 j ∧ j + k = r.length ∧ Hid (Mid w1 wi m3 w1.heap.size (w1.heap.size + 1) i3 t3 L D (pk1, pk2, pk3, pk4) r j ∧ wi.heap[wn.heap.size]? = some (.cells #[.int .i64 pk1, .bool pk2, .bool pk3, .bool false] 165 (0, 0))))
      case atStart => exact ⟨0, rfl, by simp, Lib.hid ⟨M1'.out, K0.out⟩⟩
      case round =>
        obtain ⟨j, rfl, hj, HM⟩ := hrel
        by_cases hlt : j < r.length
        · obtain ⟨x, hx⟩ : ∃ x, r[j]? = some x := ⟨_, List.getElem?_eq_getElem hlt⟩
          have hxL := (HP.out.2.2.1.mem x).1 (List.mem_of_getElem? hx)
          have o1 := ownsRow_keep HP.out.2.2.2 HM.out.1.fr (fun g hg ⟨y, hy, e⟩ => (C1.out.sepR _ _ g HP.out.1 hg).2 y hy e)
          obtain ⟨g, rfl, e0⟩ := row_ptr o1 hx
          obtain ⟨k0, k1, k2, k3⟩ := blk4 HM.out.2
          have hnode := HM.out.1.node x hxL.1
          have z2 := blk6 hnode
          have f2 := free_blk hnode 2
          have f3 := free_blk hnode 3
          have f4 := free_blk hnode 4
          have f5 := free_blk hnode 5
          have HN := Lib.hid hnode
          clear hnode
          have HX := Lib.hid (And.intro hx hxL)
          have HJ := Lib.hid hj
          clear hx hxL o1 hj
          go_wp2_with fail
          go_roundg (gk - 1)
          case measure => have := HJ.out; omega
          case rel =>
            have := HJ.out
            have ht := turned_cells HN.out HX.out.2.2
            refine ⟨j + 1, by go_num, by omega, Lib.hid ⟨HM.out.1.step C1.out.ndb HP.out.2.2.1 HX.out.1 (fun y hy => ?_) ht.1 ht.2, ht.1.at HM.out.2 ?_⟩⟩
            · have := HB.out y hy
              exact ⟨by omega, by omega, C1.out.sets.ne (C1.out.node y hy)⟩
            · have := HB.out x HX.out.2.1
              have := HZ.out
              intro e; omega
        · have he : j = r.length := by omega
          subst he
          by_cases h0 : 0 < r.length
          · obtain ⟨k0, k1, k2, k3⟩ := blk4 HM.out.2
            obtain ⟨wm, rm, hm1, hm2⟩ := run_map_set (w := wr) keyLaw_kind Tryz.underlying161 HM.out.1.new (pk1, pk2, pk3, false) (.slice ra r.length rc)
            unfold kenc at rm
            simp only at rm
            have HQ := Lib.hid (And.intro hm1 hm2)
            clear hm1 hm2
            go_wp2_with fail
            have TO := HT.out.out HP.out.1 HP.out.2.1 C1.out.ndb HP.out.2.2.1 HS.out HM.out.1 h0 (by have := C1.out.sets.lt; omega) (by omega) (Nat.le_refl _) HB.out HQ.out.2 HQ.out.1
            go_roundg (i3.length - D.length - 1)
            case measure => exact TO.2
            case rel => exact ⟨_, _, Lib.hid TO.1⟩
          · have hr0 : r = [] := List.eq_nil_of_length_eq_zero (by omega)
            have TO := Lib.hid (HT.out.none HP.out.1 HP.out.2.1 C1.out.ndb (hr0 ▸ HP.out.2.2.1) (w1 := wr) (by have := HM.out.1; rw [hr0] at this; exact this))
            clear hr0
            go_wp2_with fail
            go_roundg (i3.length - D.length - 1)
            case measure => exact TO.out.2
            case rel => exact ⟨_, _, Lib.hid TO.out.1⟩
end Go.Proofs.YtnjaaagiindclaaGreatDoor

/-
  Sets whose blocks a predicate names: what each word answers, and what it leaves.
-/
namespace Go.Proofs.YtnjaaagiindclaaGreatDoor
open Go.RowKit Go.Deep

/-- sets of which F names the blocks, all of them there -/
structure Mine (w : World) (s : Nat) (L : List It) (F : Nat → Prop) : Prop where
  is : Is w s L F
  lt : ∀ b, F b → b < w.heap.size

/-- from w to w', what F names may have turned; F' names no more than that and new blocks -/
structure Step (F F' : Nat → Prop) (w w' : World) : Prop where
  fr : Fr F w w'
  new : ∀ b, F' b → F b ∨ w.heap.size ≤ b

theorem Is.ids {w : World} {s : Nat} {L : List It} {F : Nat → Prop} (h : Is w s L F) : (L.map (·.id)).Nodup := by
  obtain ⟨m1, m2, m3, i1, i2, i3, h1, h2⟩ := h; exact h1.ndI
theorem Is.bases {w : World} {s : Nat} {L : List It} {F : Nat → Prop} (h : Is w s L F) : (L.map (·.base)).Nodup := by
  obtain ⟨m1, m2, m3, i1, i2, i3, h1, h2⟩ := h; exact h1.core.ndB

theorem sfp_lt {w : World} {s m1 m2 m3 : Nat} {i1 i2 : List (Int × Value)} {i3 : List (Kd × Value)} {L : List It} (h : Sets w s m1 m2 m3 i1 i2 i3 L) : ∀ b, sfp s m1 m2 m3 i3 L b → b < w.heap.size := by
  rintro b (rfl | rfl | rfl | rfl | ⟨x, hx, rfl⟩ | ⟨k, v, hm, hb⟩)
  · exact lt_blk h.core.root
  · exact h.ids.lt
  · exact h.bases.lt
  · exact h.core.sets.lt
  · exact lt_blk (h.core.node x hx)
  · obtain ⟨r, _, ho⟩ := h.core.row k v hm
    obtain ⟨cur, hc⟩ := ownsRow_blk ho hb
    exact lt_blk hc

theorem Mine.quiet {w w' : World} {s : Nat} {L : List It} {F : Nat → Prop} (h : Mine w s L F) (hf : Fr (fun _ => False) w w') : Mine w' s L F :=
  ⟨h.is.quiet hf, fun b hb => Nat.lt_of_lt_of_le (h.lt b hb) hf.size⟩

theorem sfp_keep {w w' : World} {s m1 m2 m3 : Nat} {i1 i2 : List (Int × Value)} {i3 : List (Kd × Value)} {L : List It} {S : Nat → Prop} (h : Sets w s m1 m2 m3 i1 i2 i3 L) (hf : Fr S w w') (hS : ∀ b, sfp s m1 m2 m3 i3 L b → ¬ S b) : Sets w' s m1 m2 m3 i1 i2 i3 L :=
  ⟨h.core.keep hf (hS _ (.inl rfl)) (hS _ (.inr (.inr (.inr (.inl rfl))))) (fun x hx => hS _ (.inr (.inr (.inr (.inr (.inl ⟨x, hx, rfl⟩)))))) (fun k v _ hm hg => hS _ (.inr (.inr (.inr (.inr (.inr ⟨k, v, hm, hg⟩)))))),
    h.ids.fr hf (hS _ (.inr (.inl rfl))), h.bases.fr hf (hS _ (.inr (.inr (.inl rfl)))), h.idsL, h.basesL, h.ndI, h.sepM⟩

/-- what others do leaves the sets -/
theorem Mine.keep {w w' : World} {s : Nat} {L : List It} {F S : Nat → Prop} (h : Mine w s L F) (hf : Fr S w w') (hS : ∀ b, F b → ¬ S b) : Mine w' s L F := by
  obtain ⟨m1, m2, m3, i1, i2, i3, h1, h2⟩ := h.is
  exact ⟨⟨m1, m2, m3, i1, i2, i3, sfp_keep h1 hf (fun b hb => hS b (h2 b hb)), h2⟩, fun b hb => Nat.lt_of_lt_of_le (h.lt b hb) hf.size⟩

theorem Mine.next {w w' : World} {s : Nat} {L' : List It} {F : Nat → Prop} (hi : Is w' s L' (fun b => F b ∨ w.heap.size ≤ b)) (hf : Fr F w w') : ∃ F', Mine w' s L' F' ∧ Step F F' w w' := by
  obtain ⟨m1, m2, m3, i1, i2, i3, h1, h2⟩ := hi
  exact ⟨sfp s m1 m2 m3 i3 L', ⟨⟨m1, m2, m3, i1, i2, i3, h1, fun b hb => hb⟩, sfp_lt h1⟩, hf, h2⟩

theorem Step.none {F : Nat → Prop} {w w' : World} (hf : Fr (fun _ => False) w w') : Step F F w w' := ⟨hf.mono (fun _ _ => False.elim), fun _ h => .inl h⟩
theorem Step.trans {F F' F'' : Nat → Prop} {w w' w'' : World} (h : Step F F' w w') (h' : Step F' F'' w' w'') : Step F F'' w w'' :=
  ⟨h.fr.trans h'.fr (fun b hb h2 => (h.new b h2).elim id (fun h3 => by omega)), fun b hb => (h'.new b hb).elim (h.new b) (fun h2 => .inr (Nat.le_trans h.fr.size h2))⟩

/-- the sets are at L' -/
def Now (w : World) (s : Nat) (L' : List It) (F : Nat → Prop) (w' : World) : Prop := ∃ F', Mine w' s L' F' ∧ Step F F' w w'

theorem new_m (w : World) : Calls Tryz.prog 44 #[] w fun e w' => ∃ s, e = .returned (.pointer (some ⟨s, 0, none⟩)) ∧ Hid (Now w s [] (fun _ => False) w') :=
  (new_any w).mono fun _ _ ⟨s, he, hi, hf⟩ => ⟨s, he, Lib.hid (Mine.next (F := fun _ => False) (hi.mono (fun _ hb => .inr hb)) hf)⟩

theorem put_m {s : Nat} {L : List It} {F : Nat → Prop} {w : World} (h : Mine w s L F) (id base cls : Int) (np fu sw : Bool) (hL : L.length ≤ 1000000) :
    Calls Tryz.prog 226 #[.pointer (some ⟨s, 0, none⟩), .int .i64 id, .int .u64 base, .int .i64 cls, .bool np, .bool fu, .bool sw] w fun e w' =>
      ∃ c L', e = .returned (.int .i64 c) ∧ Hid (Now w s L' F w' ∧ Puts L id base cls np fu sw c L') := by
  by_cases h1 : id < 1 ∨ cls < 0 ∨ 68 ≤ cls
  · refine (put_arg s w id base cls np fu sw h1).mono fun e w' ⟨he, hw⟩ => ?_
    subst hw
    exact ⟨1, L, he, Lib.hid ⟨⟨F, h, Step.none (Fr.refl _ _)⟩, .inl ⟨h1, rfl, rfl⟩⟩⟩
  · by_cases h2 : ∃ x ∈ L, x.id = id ∨ x.base = base
    · refine (put_twice w h.is id base cls np fu sw (by omega) (by omega) h2).mono fun e w' ⟨he, hw⟩ => ?_
      subst hw
      exact ⟨34, L, he, Lib.hid ⟨⟨F, h, Step.none (Fr.refl _ _)⟩, .inr (.inl ⟨by omega, h2, rfl, rfl⟩)⟩⟩
    · have hI : ∀ y ∈ L, y.id ≠ id := fun y hy he => h2 ⟨y, hy, .inl he⟩
      have hB : ∀ y ∈ L, y.base ≠ base := fun y hy he => h2 ⟨y, hy, .inr he⟩
      refine (put_ok w h.is id base cls np fu sw (by omega) (by omega) hI hB hL).mono fun e w' ⟨he, hi, hf⟩ => ?_
      exact ⟨0, _, he, Lib.hid ⟨Mine.next hi hf, .inr (.inr ⟨by omega, hI, hB, rfl, _, rfl⟩)⟩⟩

theorem take_m {s : Nat} {L : List It} {F : Nat → Prop} {w : World} (h : Mine w s L F) (k1 : Int) (k2 k3 k4 : Bool) (hL : L.length ≤ 1000000) :
    Calls Tryz.prog 248 #[.pointer (some ⟨s, 0, none⟩), .int .i64 k1, .bool k2, .bool k3, .bool k4] w fun e w' =>
      ∃ id ok L', e = .returned (.tuple #[.int .i64 id, .bool ok]) ∧ Hid (Now w s L' F w' ∧ Took L (k1, k2, k3, k4) id ok L') :=
  (take_any w h.is k1 k2 k3 k4 hL).mono fun _ _ ⟨id, ok, L', he, ht, hi, hf⟩ => ⟨id, ok, L', he, Lib.hid ⟨Mine.next hi hf, ht⟩⟩

theorem remove_m {s : Nat} {L : List It} {F : Nat → Prop} {w : World} (h : Mine w s L F) (id : Int) (hL : L.length ≤ 1000000) :
    Calls Tryz.prog 178 #[.pointer (some ⟨s, 0, none⟩), .int .i64 id] w fun e w' => ∃ c L', e = .returned (.int .i64 c) ∧ Hid (Now w s L' F w' ∧ Removes L id c L') := by
  by_cases hx : ∃ x ∈ L, x.id = id
  · obtain ⟨x, hx, rfl⟩ := hx
    exact (remove_ok w h.is x hx hL).mono fun e w' ⟨he, hi, hf⟩ => ⟨0, _, he, Lib.hid ⟨Mine.next hi hf, .inr ⟨rfl, ⟨x, hx, rfl⟩, rfl⟩⟩⟩
  · obtain ⟨m1, m2, m3, i1, i2, i3, h1, h2⟩ := h.is
    refine (remove_none w h1 id (fun y hy he => hx ⟨y, hy, he⟩)).mono fun e w' ⟨he, hw⟩ => ?_
    subst hw
    exact ⟨35, L, he, Lib.hid ⟨⟨F, h, Step.none (Fr.refl _ _)⟩, .inl ⟨rfl, rfl, fun y hy he => hx ⟨y, hy, he⟩⟩⟩⟩

theorem count_m {s : Nat} {L : List It} {F : Nat → Prop} {w : World} (h : Mine w s L F) (b : Bool) (hL : L.length ≤ 1000000) :
    Calls Tryz.prog 129 #[.pointer (some ⟨s, 0, none⟩), .bool b] w fun e w' => e = .returned (.int .i64 (num L b)) ∧ Hid (Fr (fun _ => False) w w') := by
  obtain ⟨m1, m2, m3, i1, i2, i3, h1, h2⟩ := h.is
  exact (count_any w h1.core b hL).mono fun e w' ⟨he, hf⟩ => ⟨he, Lib.hid hf⟩

theorem least_m {s : Nat} {L : List It} {F : Nat → Prop} {w : World} (h : Mine w s L F) (hL : L.length ≤ 1000000) :
    Calls Tryz.prog 177 #[.pointer (some ⟨s, 0, none⟩)] w fun e w' => ∃ id ok, e = .returned (.tuple #[.int .i64 id, .bool ok]) ∧ Hid (Fr (fun _ => False) w w' ∧ Leasts L id ok) := by
  obtain ⟨m1, m2, m3, i1, i2, i3, h1, h2⟩ := h.is
  exact (least_any w h1.core hL).mono fun e w' ⟨id, ok, he, hl, hf⟩ => ⟨id, ok, he, Lib.hid ⟨hf, hl⟩⟩

/-- what Flip answers, and what is there then -/
def Flips (L : List It) (c : Int) (L' : List It) : Prop := (0 < num L false ∧ c = 33 ∧ L' = L) ∨ (num L false = 0 ∧ c = 0 ∧ L' = L.map It.turned)

theorem flip_m {s : Nat} {L : List It} {F : Nat → Prop} {w : World} (h : Mine w s L F) (hL : L.length ≤ 1000000) :
    Calls Tryz.prog 184 #[.pointer (some ⟨s, 0, none⟩)] w fun e w' => ∃ c L', e = .returned (.int .i64 c) ∧ Hid (Now w s L' F w' ∧ Flips L c L') := by
  by_cases hn : num L false = 0
  · exact (flip_ok w h.is hL hn).mono fun e w' ⟨he, hi, hf⟩ => ⟨0, _, he, Lib.hid ⟨Mine.next hi hf, .inr ⟨hn, rfl, rfl⟩⟩⟩
  · exact (flip_busy w h.is hL (by omega)).mono fun e w' ⟨he, hf⟩ => ⟨33, L, he, Lib.hid ⟨⟨F, h.quiet hf, Step.none hf⟩, .inl ⟨by omega, rfl, rfl⟩⟩⟩
end Go.Proofs.YtnjaaagiindclaaGreatDoor

/-
  SX: calls in a whole world: what was there stays; a call's tree tells what it answers. No program in sight.
-/
namespace Go.Proofs.YtnjaaagiindclaaGreatDoor
open Go.RowKit Go.Deep
namespace SX

/-- all blocks of a world -/
def allG (W : World) : Grp := (List.range W.heap.size).pmap (fun i h => (i, W.heap[i]'h)) (fun _ h => List.mem_range.1 h)
theorem allG_fst (W : World) : (allG W).map Prod.fst = List.range W.heap.size := by
  unfold allG
  rw [List.map_pmap]
  apply List.ext_getElem
  · simp
  · intro i h1 h2; simp
theorem allG_mem {W : World} {i : Nat} {o : Obj} (h : W.heap[i]? = some o) : (i, o) ∈ allG W := by
  obtain ⟨hi, e⟩ := Array.getElem?_eq_some_iff.1 h
  unfold allG
  rw [List.mem_pmap]
  exact ⟨i, List.mem_range.2 hi, by rw [e]⟩
theorem allG_is {W : World} {x : Blk} (h : x ∈ allG W) : W.heap[x.1]? = some x.2 := by
  unfold allG at h
  rw [List.mem_pmap] at h
  obtain ⟨i, hi, rfl⟩ := h
  exact Array.getElem?_eq_getElem _
/-- the model: all that was there -/
def bigW (W : World) : BigRep := fun _ _ G => G = allG W
def ren0 : Ren := fun b => if b = 0 then some 0 else none
def heap0 : Heap := [(0, .big .z)]
theorem whole_start (W : World) : Holds ⟨W, [], bigW W⟩ ren0 heap0 W := by
  refine ⟨[allG W], ⟨allG W, [], rfl, ⟨0, rfl, rfl⟩, rfl⟩, ⟨⟨rfl, rfl, rfl⟩, ?_, ?_⟩⟩
  · simp only [List.append_nil, List.flatten_cons, List.flatten_nil, allG_fst]
    exact List.nodup_range
  · intro x hx
    simp only [List.append_nil, List.flatten_cons, List.flatten_nil] at hx
    exact allG_is hx
/-- is all that was there said to be there still? -/
noncomputable def big0 (h : Heap) : Bool := match h.get 0 with
  | some o => (match o with | .big m => (match m with | .z => true | _ => false) | _ => false)
  | none => false
theorem big0_get {h : Heap} (e : big0 h = true) : h.get 0 = some (.big .z) := by
  unfold big0 at e
  split at e
  next o ho =>
    rw [ho]
    cases o <;> first | cases e | skip
    next m => cases m <;> first | rfl | cases e
  · cases e
theorem Holds.still {C : Ctx} {W : World} (hB : C.B = bigW W) {ρ : Ren} {h : Heap} {w : World} (H : Holds C ρ h w) (e : big0 h = true) {i : Nat} {o : Obj} (hi : W.heap[i]? = some o) : w.heap[i]? = some o := by
  obtain ⟨G, R', r, hp, _⟩ := H.focus (big0_get e)
  obtain ⟨g, _, hG⟩ := r
  rw [hB] at hG
  have hG : G = allG W := hG
  subst hG
  exact hp.has (i, o) (by simp only [List.flatten_cons, List.mem_append]; exact .inl (allG_mem hi))
theorem Holds.frW {W : World} {R : List Grp} {ρ : Ren} {h : Heap} {w : World} (H : Holds ⟨W, R, bigW W⟩ ρ h w) (e : big0 h = true) : Fr (fun _ => False) W w := by
  have key := fun {i : Nat} {o : Obj} (hi : W.heap[i]? = some o) => H.still rfl e hi
  obtain ⟨Gs, _, hp⟩ := H
  refine ⟨hp.io.1, hp.io.2.1, hp.io.2.2, ?_, fun b hb _ => ?_⟩
  · rcases Nat.lt_or_ge w.heap.size W.heap.size with h1 | h1
    · have h2 : W.heap[w.heap.size]? = some (W.heap[w.heap.size]'h1) := Array.getElem?_eq_getElem _
      have h3 := key h2
      rw [Array.getElem?_eq_none (Nat.le_refl _)] at h3
      cases h3
    · exact h1
  · have h2 : W.heap[b]? = some (W.heap[b]'hb) := Array.getElem?_eq_getElem _
    rw [key h2, h2]
/-- what a call's tree says, of a call in a whole world -/
theorem whole {P : Program} {W : World} {f : FuncId} {sp : Spec} (hs : SpecEnters P (bigW W) f sp) {args : List SV} {vs : Array Value} (hv : RelL ren0 args vs.toList) (Q : Bool → SV → Heap → Nat → Prop)
    (hd : (sp args heap0 1 tellK).den fun e st => ∃ b v, e = (if b then .r else .p v) ∧ sget st.tm 0 = v ∧ Q b v st.hp st.nx) :
    Calls P f vs W fun e w' => ∃ b v x h' n' ρ', e = Ended b v ∧ SV.Rel ρ' x v ∧ Holds ⟨W, [], bigW W⟩ ρ' h' w' ∧ ρ'.bd n' ∧ Q b x h' n' := by
  refine (hs.calls ⟨W, [], bigW W⟩ _ args heap0 1 tellK rfl hd ren0 W vs hv (whole_start W) (fun b hb => if_neg (by omega))).mono ?_
  rintro e w' ⟨b, v, x, h', n', ρ', rfl, hx, hH, _, hbd, b', v', he, hg, hq⟩
  have hg' : x = v' := hg
  subst hg'
  have hb : b = b' := by
    cases b <;> cases b' <;> first | rfl | cases he
  subst hb
  exact ⟨b, v, x, h', n', ρ', rfl, hx, hH, hbd, hq⟩
/-- a call of which all is known but what lies in the world -/
theorem whole_sure {P : Program} {W : World} {f : FuncId} {sp : Spec} (hs : SpecEnters P (bigW W) f sp) {args : List SV} {vs : Array Value} (hv : RelL ren0 args vs.toList) {x : SV} {h : Heap} {n : Nat}
    (ht : (sp args heap0 1 tellK).sure (isRes x h n) = true) :
    Calls P f vs W fun e w' => ∃ v ρ', e = .returned v ∧ SV.Rel ρ' x v ∧ Holds ⟨W, [], bigW W⟩ ρ' h w' := by
  refine (whole hs hv (fun b v h' n' => b = true ∧ v = x ∧ subH h' h = true) (Tree.sure_den (fun e st hok => ?_) ht)).mono ?_
  · simp only [isRes, Bool.and_eq_true] at hok
    obtain ⟨⟨⟨h1, h2⟩, h3⟩, _⟩ := hok
    refine ⟨true, sget st.tm 0, ?_, rfl, rfl, SV.beq_eq _ _ h2, h3⟩
    cases e <;> first | rfl | cases h1
  · rintro e w' ⟨b, v, y, h', n', ρ', rfl, hy, hH, _, rfl, rfl, hsub⟩
    exact ⟨v, ρ', rfl, hy, hH.sub hsub⟩
end SX
end Go.Proofs.YtnjaaagiindclaaGreatDoor

/-
  SX: a package's things as one object: what its contracts say of the blocks that they name. No program in sight.
-/
namespace Go.Proofs.YtnjaaagiindclaaGreatDoor
open Go.RowKit Go.Deep
namespace SX

/-- what stands in the blocks that a predicate names, and there alone -/
structure FpOk {α : Type} (M : World → Nat → α → (Nat → Prop) → Prop) : Prop where
  loc : ∀ {w w' : World} {s : Nat} {d : α} {F : Nat → Prop}, M w s d F → (∀ b, F b → w'.heap[b]? = w.heap[b]?) → M w' s d F
  lt : ∀ {w : World} {s : Nat} {d : α} {F : Nat → Prop}, M w s d F → ∀ b, F b → b < w.heap.size
  ext : ∀ {w : World} {s : Nat} {d : α} {F F' : Nat → Prop}, M w s d F → (∀ b, F b ↔ F' b) → M w s d F'
/-- the group is these blocks -/
def FpG {α : Type} (M : World → Nat → α → (Nat → Prop) → Prop) (g : Nat) (d : α) (G : Grp) : Prop :=
  ∃ w0, M w0 g d (fun b => b ∈ G.map Prod.fst) ∧ ∀ x ∈ G, w0.heap[x.1]? = some x.2
variable {α : Type} {M : World → Nat → α → (Nat → Prop) → Prop} {I w w' : World} {R : List Grp} {G : Grp} {g : Nat} {d d' : α}
theorem FpG.at (hM : FpOk M) (h : FpG M g d G) (hp : Hp I w (G :: R)) : M w g d (fun b => b ∈ G.map Prod.fst) := by
  obtain ⟨w0, h1, h2⟩ := h
  refine hM.loc h1 fun b hb => ?_
  obtain ⟨x, hx, rfl⟩ := List.mem_map.1 hb
  rw [h2 x hx]
  exact hp.has x (by simp only [List.flatten_cons, List.mem_append]; exact .inl hx)
open Classical in
noncomputable def pickG (w : World) (F : Nat → Prop) : Grp := (allG w).filter fun x => decide (F x.1)
theorem pickG_mem {F : Nat → Prop} {b : Nat} (h : b < w.heap.size) : b ∈ (pickG w F).map Prod.fst ↔ F b := by
  constructor
  · intro hb
    obtain ⟨x, hx, rfl⟩ := List.mem_map.1 hb
    have := (List.mem_filter.1 hx).2
    simpa using this
  · intro hF
    exact List.mem_map.2 ⟨(b, w.heap[b]'h), List.mem_filter.2 ⟨allG_mem (Array.getElem?_eq_getElem h), by simpa using hF⟩, rfl⟩
theorem pickG_is {F : Nat → Prop} {x : Blk} (h : x ∈ pickG w F) : w.heap[x.1]? = some x.2 := allG_is (List.mem_filter.1 h).1
theorem pickG_nd (w : World) (F : Nat → Prop) : ((pickG w F).map Prod.fst).Nodup := by
  refine List.Nodup.sublist ((List.filter_sublist).map _) ?_
  rw [allG_fst]; exact List.nodup_range
theorem pickG_iff {F : Nat → Prop} (hF : ∀ b, F b → b < w.heap.size) (b : Nat) : F b ↔ b ∈ (pickG w F).map Prod.fst := by
  constructor
  · intro h; exact (pickG_mem (hF b h)).2 h
  · intro h
    obtain ⟨x, hx, rfl⟩ := List.mem_map.1 h
    have := (List.mem_filter.1 hx).2
    simpa using this
/-- they have turned -/
theorem FpG.next (hM : FpOk M) {F' : Nat → Prop} (hp : Hp I w (G :: R)) (hf : Fr (fun b => b ∈ G.map Prod.fst) w w') (hm : M w' g d' F') (hn : ∀ b, F' b → b ∈ G.map Prod.fst ∨ w.heap.size ≤ b) : ∃ G', FpG M g d' G' ∧ Hp I w' (G' :: R) := by
  have hlt := hM.lt hm
  refine ⟨pickG w' F', ⟨w', hM.ext hm (pickG_iff hlt), fun x hx => pickG_is hx⟩, hp.turn hf (pickG_nd _ _) fun x hx => ⟨pickG_is hx, ?_⟩⟩
  have h1 := (List.mem_filter.1 hx).2
  exact hn x.1 (by simpa using h1)
/-- they are new -/
theorem FpG.new (hM : FpOk M) {F' : Nat → Prop} (hp : Hp I w R) (hf : Fr (fun _ => False) w w') (hm : M w' g d' F') (hn : ∀ b, F' b → w.heap.size ≤ b) : ∃ G', FpG M g d' G' ∧ Hp I w' (G' :: R) :=
  FpG.next (G := []) hM (hp.perm (by simp)) (hf.mono fun _ _ h => h.elim) hm (fun b hb => .inr (hn b hb))
/-- a word of an object of the k-th kind: out of its numbers and the other arguments the answer, and what is there then -/
noncomputable def objSpec (k : Nat) (step : List (List Int) → List SV → Option (SV × List (List Int))) : Spec := fun args h n K => match args with
  | a :: us0 => (match a with
    | .p s o => (match o with
      | .c z => if Nat.beq z 0 then (match h.get s with
        | some ob => (match ob with
          | .big m => (match m with
            | .d k' l => if Nat.beq k k' then (match step l us0 with
              | some r => K true r.1 (h.set s (.big (.d k r.2))) n
              | none => .fail 701) else .fail 702
            | _ => .fail 703)
          | _ => .fail 704)
        | none => .fail 705) else .fail 706
      | _ => .fail 707)
    | _ => .fail 708)
  | [] => .fail 709
structure ObjOk (P : Program) (M : World → Nat → List (List Int) → (Nat → Prop) → Prop) (f : FuncId) (step : List (List Int) → List SV → Option (SV × List (List Int))) : Prop where
  enter : ∀ w args, (callFunc f args).run P w = .ok (.enter f args) w
  calls : ∀ l us0 v l', step l us0 = some (v, l') → ∀ (ρ : Ren) (us : List Value), RelL ρ us0 us → ∀ (w : World) (g : Nat) (F : Nat → Prop), M w g l F →
    Calls P f (Value.pointer (some ⟨g, 0, none⟩) :: us).toArray w fun e w' => ∃ u F', e = .returned u ∧ SV.Rel ρ v u ∧ M w' g l' F' ∧ Fr F w w' ∧ ∀ b, F' b → F b ∨ w.heap.size ≤ b
theorem obj_ok {P : Program} {𝔅 : BigRep} {M : World → Nat → List (List Int) → (Nat → Prop) → Prop} {k : Nat} {f : FuncId} {step : List (List Int) → List SV → Option (SV × List (List Int))} (hM : FpOk M) (hB : ∀ l g G, 𝔅 (.d k l) g G ↔ FpG M g l G) (ho : ObjOk P M f step) : SpecEnters P 𝔅 f (objSpec k step) where
  enter := ho.enter
  calls := by
    intro C Q args h n K hC hk ρ w vs hv hH hbd
    unfold objSpec at hk
    split at hk <;> try exact hk.elim
    split at hk <;> try exact hk.elim
    split at hk <;> try exact hk.elim
    split at hk <;> try exact hk.elim
    split at hk <;> try exact hk.elim
    split at hk <;> try exact hk.elim
    split at hk <;> try exact hk.elim
    split at hk <;> try exact hk.elim
    split at hk <;> try exact hk.elim
    rename_i a0 us0 a1 s o z hz oo ob m k' l hget hkk rr r hstep
    have hz' := Nat.eq_of_beq_eq_true hz
    have hk' := Nat.eq_of_beq_eq_true hkk
    subst hz' hk'
    obtain ⟨v1, us, e1, hx, hus⟩ := hv
    simp only [SV.Rel] at hx
    obtain ⟨g, hg, rfl⟩ := hx
    have e2 : vs = (Value.pointer (some ⟨g, 0, none⟩) :: us).toArray := by
      rw [← Array.toList_inj, e1]
      rfl
    subst e2
    obtain ⟨G, R', ⟨g', hg', hG⟩, hp, hback⟩ := hH.focus hget
    have eg := hg.symm.trans hg'
    injection eg with eg
    subst eg
    rw [hC] at hG
    have hG' := (hB _ _ _).1 hG
    refine (ho.calls l us0 r.1 r.2 hstep ρ us hus w g _ (hG'.at hM hp)).mono ?_
    rintro e w' ⟨u, F', rfl, hu, hm, hf, hn⟩
    obtain ⟨G2, hG2, hp2⟩ := FpG.next hM hp hf hm hn
    exact ⟨true, u, r.1, _, n, ρ, rfl, hu, hback w' (.big (.d k r.2)) G2 ⟨g, hg, by rw [hC]; exact (hB _ _ _).2 hG2⟩ hp2, .refl _, hbd, hk⟩
/-- a new one -/
noncomputable def newSpec (k : Nat) (l : List (List Int)) : Spec := fun args h n K => match args with
  | [] => K true (.p n (.c 0)) ((n, .big (.d k l)) :: h) (n + 1)
  | _ :: _ => .fail 711
theorem new_ok {P : Program} {𝔅 : BigRep} {M : World → Nat → List (List Int) → (Nat → Prop) → Prop} {k : Nat} {f : FuncId} {l : List (List Int)} (hM : FpOk M) (hB : ∀ l g G, 𝔅 (.d k l) g G ↔ FpG M g l G) (he : ∀ w args, (callFunc f args).run P w = .ok (.enter f args) w)
    (ho : ∀ w, Calls P f #[] w fun e w' => ∃ g F', e = .returned (.pointer (some ⟨g, 0, none⟩)) ∧ M w' g l F' ∧ Fr (fun _ => False) w w' ∧ ∀ b, F' b → w.heap.size ≤ b) : SpecEnters P 𝔅 f (newSpec k l) where
  enter := he
  calls := by
    intro C Q args h n K hC hk ρ w vs hv hH hbd
    unfold newSpec at hk
    split at hk <;> try exact hk.elim
    have e2 : vs = #[] := by rw [← Array.toList_inj]; exact hv
    subst e2
    refine (ho w).mono ?_
    rintro e w' ⟨g, F', rfl, hm, hf, hn⟩
    obtain ⟨Gs, hr, hp⟩ := hH
    obtain ⟨G2, hG2, hp2⟩ := FpG.new hM hp hf hm hn
    have hle := upd_le (g := g) (hbd n (Nat.le_refl _))
    have hR : Reps C.B (upd ρ n g) ((n, .big (.d k l)) :: h) (G2 :: Gs) := ⟨G2, Gs, rfl, ⟨g, upd_at _ _ _, by rw [hC]; exact (hB _ _ _).2 hG2⟩, hr.mono hle⟩
    refine ⟨true, _, .p n (.c 0), _, _, upd ρ n g, rfl, ?_, ⟨G2 :: Gs, hR, hp2⟩, hle, upd_bd hbd, hk⟩
    simp only [SV.Rel]
    exact ⟨g, upd_at _ _ _, rfl⟩
end SX
end Go.Proofs.YtnjaaagiindclaaGreatDoor

/-
  SX: sets as one object.
-/
namespace Go.Proofs.YtnjaaagiindclaaGreatDoor
open Go.RowKit Go.Deep
theorem RowOf.same {L : List It} {k : Kd} {r : List It} (h : RowOf L k r) : RowOf L k r := h
theorem ownsRow_loc {w w' : World} {B T sz n : Nat} {v : Value} {xs : List Value} (h : w.ownsRow B T sz v n xs) (hs : ∀ g, v.ownBlock = some g → w'.heap[g]? = w.heap[g]?) : w'.ownsRow B T sz v n xs := by
  rcases h with ⟨hl, h | ⟨g, cap, cur, rfl, hg, hb, h⟩⟩
  · exact ⟨hl, .inl h⟩
  · exact ⟨hl, .inr ⟨g, cap, cur, rfl, hg, (hs g rfl).trans hb, h⟩⟩
theorem MapIs.loc {κ : Type} {enc : κ → Value} {w w' : World} {b : Nat} {m : List (κ × Value)} (h : MapIs enc w b m) (e : w'.heap[b]? = w.heap[b]?) : MapIs enc w' b m := by
  obtain ⟨es, c, h1, h2⟩ := h
  exact ⟨es, c, e.trans h1, h2⟩
theorem Mine.loc {w w' : World} {s : Nat} {L : List It} {F : Nat → Prop} (h : Mine w s L F) (e : ∀ b, F b → w'.heap[b]? = w.heap[b]?) : Mine w' s L F := by
  obtain ⟨⟨m1, m2, m3, i1, i2, i3, h1, h2⟩, hlt⟩ := h
  have e0 : ∀ b, sfp s m1 m2 m3 i3 L b → w'.heap[b]? = w.heap[b]? := fun b hb => e b (h2 b hb)
  have c := h1.core
  refine ⟨⟨m1, m2, m3, i1, i2, i3, ⟨⟨(e0 _ (.inl rfl)).trans c.root, c.sets.loc (e0 _ (.inr (.inr (.inr (.inl rfl))))), fun x hx => (e0 _ (.inr (.inr (.inr (.inr (.inl ⟨x, hx, rfl⟩)))))).trans (c.node x hx), c.ndb, c.ndB,
    fun k v hm => ?_, c.all, c.sepS, c.sepR, c.sepK⟩, h1.ids.loc (e0 _ (.inr (.inl rfl))), h1.bases.loc (e0 _ (.inr (.inr (.inl rfl)))), h1.idsL, h1.basesL, h1.ndI, h1.sepM⟩, h2⟩, fun b hb => ?_⟩
  · obtain ⟨r, h3, h4⟩ := c.row k v hm
    exact ⟨r, h3, ownsRow_loc h4 fun g hg => e0 _ (.inr (.inr (.inr (.inr (.inr ⟨k, v, hm, hg⟩)))))⟩
  · have h3 := e b hb
    rw [Array.getElem?_eq_getElem (hlt b hb)] at h3
    exact lt_blk h3
theorem inj_of_nodup_map {α β : Type} {f : α → β} : ∀ {l : List α}, (l.map f).Nodup → ∀ {x y : α}, x ∈ l → y ∈ l → f x = f y → x = y
  | a :: l, h, x, y, hx, hy, e => by
    rw [List.map_cons, List.nodup_cons] at h
    rcases List.mem_cons.1 hx with hx1 | hx1
    · rcases List.mem_cons.1 hy with hy1 | hy1
      · rw [hx1, hy1]
      · exact absurd (by rw [← hx1, e]; exact List.mem_map_of_mem hy1) h.1
    · rcases List.mem_cons.1 hy with hy1 | hy1
      · exact absurd (by rw [← hy1, ← e]; exact List.mem_map_of_mem hx1) h.1
      · exact inj_of_nodup_map h.2 hx1 hy1 e
namespace SX
def b2i (b : Bool) : Int := if b then 1 else 0
theorem b2i_inj {a b : Bool} (h : b2i a = b2i b) : a = b := by cases a <;> cases b <;> first | rfl | cases h
def itRow (x : It) : List Int := [x.id, x.base, x.kd.1, b2i x.kd.2.1, b2i x.kd.2.2.1, b2i x.kd.2.2.2]
/-- the sets hold these spans -/
def SetsM (w : World) (s : Nat) (l : List (List Int)) (F : Nat → Prop) : Prop := ∃ L, l = L.map itRow ∧ Mine w s L F ∧ L.length ≤ 1000000
theorem setsM_ok : FpOk SetsM where
  loc := fun ⟨L, e, h, hl⟩ hF => ⟨L, e, h.loc hF, hl⟩
  lt := fun ⟨_, _, h, _⟩ => h.lt
  ext := fun ⟨L, e, h, hl⟩ hF => by
    have := funext fun b => propext (hF b)
    subst this
    exact ⟨L, e, h, hl⟩
/-- a known number, a known truth -/
def lit : SV → Option Int
  | .l _ n => some n
  | _ => none
def rget (r : List Int) (i : Nat) : Int := r.getD i 0
def bitB : SV → Option Bool
  | .tt => some true
  | .ff => some false
  | _ => none
theorem lit_rel {ρ : Ren} {x : SV} {n : Int} {_k : IntKind} (h : lit x = some n) {v : Value} (hr : x.Rel ρ v) : ∃ k, v = .int k n := by
  cases x <;> simp only [lit, reduceCtorEq, Option.some.injEq] at h
  subst h; simp only [SV.Rel] at hr; exact ⟨_, hr⟩
/-- a known number of a kind -/
def litK (k : IntKind) : SV → Option Int
  | .l k' n => if isK k' k then some n else none
  | _ => none
theorem litK_rel {ρ : Ren} {k : IntKind} {x : SV} {n : Int} (h : litK k x = some n) {v : Value} (hr : x.Rel ρ v) : v = .int k n := by
  cases x <;> simp only [litK, reduceCtorEq] at h
  split at h
  next e =>
    injection h with h
    subst h
    simp only [SV.Rel] at hr
    rw [hr, isK_eq e]
  · cases h
theorem bitB_rel {ρ : Ren} {x : SV} {n : Bool} (h : bitB x = some n) {v : Value} (hr : x.Rel ρ v) : v = .bool n := by
  cases x <;> simp only [bitB, reduceCtorEq, Option.some.injEq] at h
  all_goals (subst h; simp only [SV.Rel] at hr; exact hr)
def ltB (a b : Int) : Bool := @decide (a < b) (Int.decLt a b)
theorem ltB_iff {a b : Int} : ltB a b = true ↔ a < b := by simp [ltB]
theorem zB_iff {a b : Int} : zB a b = true ↔ a = b := ⟨zB_eq, fun h => by subst h; cases a <;> exact Nat.beq_refl _⟩
/-- the kind of a row -/
def kdB (c : Int) (a b d : Bool) (r : List Int) : Bool := zB (rget r 2) c && zB (rget r 3) (b2i a) && zB (rget r 4) (b2i b) && zB (rget r 5) (b2i d)
theorem kdB_iff {c : Int} {a b d : Bool} {x : It} : kdB c a b d (itRow x) = true ↔ x.kd = (c, a, b, d) := by
  obtain ⟨b0, id, base, k1, k2, k3, k4⟩ := x
  have e : ∀ i, rget (itRow ⟨b0, id, base, (k1, k2, k3, k4)⟩) i = ([id, base, k1, b2i k2, b2i k3, b2i k4] : List Int).getD i 0 := fun _ => rfl
  simp only [kdB, e, Bool.and_eq_true, zB_iff, Prod.mk.injEq]
  exact ⟨fun ⟨⟨⟨h1, h2⟩, h3⟩, h4⟩ => ⟨h1, b2i_inj h2, b2i_inj h3, b2i_inj h4⟩, fun ⟨h1, h2, h3, h4⟩ => ⟨⟨⟨h1, congrArg b2i h2⟩, congrArg b2i h3⟩, congrArg b2i h4⟩⟩
/-- the first row of the least base -/
def low : List (List Int) → Option (List Int)
  | [] => none
  | r :: l => (match low l with
    | none => some r
    | some q => if ltB (rget q 1) (rget r 1) then some q else some r)
theorem low_none {l : List (List Int)} (h : low l = none) : l = [] := by
  cases l with
  | nil => rfl
  | cons r l =>
    simp only [low] at h
    split at h
    · cases h
    · split at h <;> cases h
theorem low_some : ∀ {l : List (List Int)} {q : List Int}, low l = some q → q ∈ l ∧ ∀ r ∈ l, rget q 1 ≤ rget r 1
  | [], _, h => by cases h
  | r :: l, q, h => by
    simp only [low] at h
    split at h
    next e =>
      have := low_none e
      subst this
      injection h with h
      subst h
      exact ⟨by simp, fun r hr => by rw [List.mem_singleton.1 hr]; exact Int.le_refl _⟩
    next p e =>
      obtain ⟨h1, h2⟩ := low_some e
      split at h
      next hlt =>
        injection h with h
        subst h
        have h3 := ltB_iff.1 hlt
        refine ⟨List.mem_cons_of_mem _ h1, fun x hx => ?_⟩
        rcases List.mem_cons.1 hx with rfl | hx
        · omega
        · exact h2 x hx
      next hlt =>
        injection h with h
        subst h
        have h3 : ¬ rget p 1 < rget r 1 := fun h => hlt (ltB_iff.2 h)
        refine ⟨by simp, fun x hx => ?_⟩
        rcases List.mem_cons.1 hx with rfl | hx
        · exact Int.le_refl _
        · have := h2 x hx; omega
def idB (id : Int) (r : List Int) : Bool := zB (rget r 0) id
/-! the words -/
def stPut (l : List (List Int)) : List SV → Option (SV × List (List Int))
  | a1 :: a2 :: a3 :: a4 :: a5 :: a6 :: [] => (match litK .i64 a1, litK .u64 a2, litK .i64 a3, bitB a4, bitB a5, bitB a6 with
    | some id, some base, some c, some x, some y, some z =>
      if ltB id 1 || ltB c 0 || ltB 67 c then some (.l .i64 1, l)
      else if l.any fun r => idB id r || zB (rget r 1) base then some (.l .i64 34, l)
      else if Nat.blt l.length 1000000 then some (.l .i64 0, l ++ [[id, base, c, b2i x, b2i y, b2i z]]) else none
    | _, _, _, _, _, _ => none)
  | _ => none
def stTake (l : List (List Int)) : List SV → Option (SV × List (List Int))
  | a1 :: a2 :: a3 :: a4 :: [] => (match litK .i64 a1, bitB a2, bitB a3, bitB a4 with
    | some c, some x, some y, some z => (match low (l.filter (kdB c x y z)) with
      | none => some (.tup [.l .i64 0, .ff], l)
      | some r => some (.tup [.l .i64 (rget r 0), .tt], l.filter fun q => !idB (rget r 0) q))
    | _, _, _, _ => none)
  | _ => none
def stRemove (l : List (List Int)) : List SV → Option (SV × List (List Int))
  | a1 :: [] => (match litK .i64 a1 with
    | some id => if l.any (idB id) then some (.l .i64 0, l.filter fun q => !idB id q) else some (.l .i64 35, l)
    | none => none)
  | _ => none
def freshB (r : List Int) : Bool := zB (rget r 5) 0
def stLeast (l : List (List Int)) : List SV → Option (SV × List (List Int))
  | [] => (match low (l.filter freshB) with
    | none => some (.tup [.l .i64 0, .ff], l)
    | some r => some (.tup [.l .i64 (rget r 0), .tt], l))
  | _ => none
def stCount (l : List (List Int)) : List SV → Option (SV × List (List Int))
  | a1 :: [] => (match bitB a1 with
    | some b => some (.l .i64 (Int.ofNat (l.filter fun r => zB (rget r 5) (b2i b)).length), l)
    | none => none)
  | _ => none
def turnR (r : List Int) : List Int := [rget r 0, rget r 1, rget r 2, rget r 3, rget r 4, 0]
def stFlip (l : List (List Int)) : List SV → Option (SV × List (List Int))
  | [] => if l.any freshB then some (.l .i64 33, l) else some (.l .i64 0, l.map turnR)
  | _ => none
end SX
end Go.Proofs.YtnjaaagiindclaaGreatDoor
