/-
  A row of the sets is another one: plain facts.
-/
import Derived.Test.YtanaicjeheacoaaEyes
namespace Go.Proofs.Ytanaicjeheacoaa
open Go.RowKit Go.Deep

theorem nodup_inj {α : Type} {l : List α} (h : l.Nodup) {i j : Nat} {a : α} (h1 : l[i]? = some a) (h2 : l[j]? = some a) : i = j := by
  obtain ⟨l1, e1⟩ := List.getElem?_eq_some_iff.1 h1
  obtain ⟨l2, e2⟩ := List.getElem?_eq_some_iff.1 h2
  have hp := List.pairwise_iff_getElem.1 h
  rcases Nat.lt_trichotomy i j with hl | hl | hl
  · exact absurd (e1.trans e2.symm) (hp i j l1 l2 hl)
  · exact hl
  · exact absurd (e2.trans e1.symm) (hp j i l2 l1 hl)

theorem mem_mapSet {κ : Type} [DecidableEq κ] {m : List (κ × Value)} {k : κ} {v : Value} (hn : (m.map (·.1)).Nodup) (p : κ × Value) : p ∈ mapSet m k v ↔ (p = (k, v)) ∨ (p.1 ≠ k ∧ p ∈ m) := by
  by_cases hk : k ∈ m.map (·.1)
  · unfold mapSet
    cases hp : posOf k (m.map (·.1)) with
    | none =>
      exfalso
      have : mapGet m k = none := by unfold mapGet; rw [hp]; rfl
      exact mapGet_none.1 this hk
    | some j =>
      have hj := posOf_some hp
      rw [List.getElem?_map] at hj
      cases hm : m[j]? with
      | none => simp [hm] at hj
      | some q =>
        simp only [hm, Option.map_some, Option.some.injEq] at hj
        have hjl := (List.getElem?_eq_some_iff.1 hm).1
        constructor
        · intro h
          obtain ⟨i, hi⟩ := List.mem_iff_getElem?.1 h
          rw [List.getElem?_set] at hi
          by_cases hij : j = i
          · simp only [hij, if_true] at hi
            split at hi
            · simp only [Option.some.injEq] at hi; exact .inl hi.symm
            · simp at hi
          · rw [if_neg hij] at hi
            refine .inr ⟨fun he => hij ?_, List.mem_of_getElem? hi⟩
            have h1 : (m.map (·.1))[i]? = some k := by rw [List.getElem?_map, hi]; simp [he]
            have h2 : (m.map (·.1))[j]? = some k := by rw [List.getElem?_map, hm]; simp [hj]
            exact nodup_inj hn h2 h1
        · rintro (rfl | ⟨h1, h2⟩)
          · exact List.mem_of_getElem? (i := j) (by rw [List.getElem?_set, if_pos rfl, if_pos hjl])
          · obtain ⟨i, hi⟩ := List.mem_iff_getElem?.1 h2
            refine List.mem_of_getElem? (i := i) ?_
            rw [List.getElem?_set, if_neg ?_]; exact hi
            rintro rfl
            rw [hm] at hi
            simp only [Option.some.injEq] at hi
            subst hi
            exact h1 hj
  · rw [mapSet_new hk]
    simp only [List.mem_append, List.mem_singleton]
    constructor
    · rintro (h | h)
      · exact .inr ⟨fun he => hk (he ▸ List.mem_map_of_mem h), h⟩
      · exact .inl h
    · rintro (h | ⟨_, h⟩)
      · exact .inr h
      · exact .inl h

theorem mem_mapDel {κ : Type} [DecidableEq κ] {m : List (κ × Value)} {k : κ} (hn : (m.map (·.1)).Nodup) (p : κ × Value) : p ∈ mapDel m k ↔ p.1 ≠ k ∧ p ∈ m := by
  rw [mapDel_eq hn]; simp [List.mem_filter, and_comm]

theorem RowOf.other {L L' : List It} {k : Kd} {r : List It} (h : RowOf L k r) (hL : ∀ y, y.kd = k → (y ∈ L' ↔ y ∈ L)) : RowOf L' k r :=
  ⟨h.ord, fun x => by rw [h.mem]; exact ⟨fun ⟨h1, h2⟩ => ⟨(hL x h2).2 h1, h2⟩, fun ⟨h1, h2⟩ => ⟨(hL x h2).1 h1, h2⟩⟩⟩

/-- the value that a kind has, if any, is its row's -/
theorem Core.own {w : World} {s m1 m2 m3 : Nat} {i3 : List (Kd × Value)} {L : List It} (h : Core w s m1 m2 m3 i3 L) {k : Kd} {v : Value} (hv : (mapGet i3 k).getD (.slice none 0 0) = v) {g : Nat} (hg : v.ownBlock = some g) : (k, v) ∈ i3 := by
  cases hm : mapGet i3 k with
  | none => rw [hm] at hv; simp only [Option.getD_none] at hv; subst hv; simp [Value.ownBlock] at hg
  | some u => rw [hm] at hv; simp only [Option.getD_some] at hv; subst hv; exact (mapGet_some h.sets.nodup).1 hm

/-- the row of a kind turns: what the code looks at is as it was -/
theorem Core.past {w w' : World} {s m1 m2 m3 n c n' : Nat} {i3 : List (Kd × Value)} {L : List It} {a : Option Addr} (h : Core w s m1 m2 m3 i3 L) {k : Kd} (hv : (mapGet i3 k).getD (.slice none 0 0) = .slice a n c)
    (hf : Fr (fun b => some b = (Value.slice a n' c).ownBlock) w w') : w'.heap[s]? = some (.cells #[.map (some m1), .map (some m2), .map (some m3)] 53 (0, 0)) ∧ (∀ x ∈ L, w'.heap[x.b]? = some (.cells x.cells 58 (0, 0))) ∧ MapIs kenc w' m3 i3 := by
  have hown : ∀ g, some g = (Value.slice a n' c).ownBlock → (k, Value.slice a n c) ∈ i3 ∧ (Value.slice a n c).ownBlock = some g := fun g hg => by
    have hg' : (Value.slice a n c).ownBlock = some g := by rw [hg]; cases a <;> rfl
    exact ⟨h.own hv hg', hg'⟩
  refine ⟨hf.at h.root (fun hb => ?_), fun x hx => hf.at (h.node x hx) (fun hb => ?_), h.sets.fr hf (fun hb => ?_)⟩
  · obtain ⟨h1, h2⟩ := hown _ hb
    exact (h.sepR _ _ _ h1 h2).1 rfl
  · obtain ⟨h1, h2⟩ := hown _ hb
    exact (h.sepR _ _ _ h1 h2).2 x hx rfl
  · obtain ⟨h1, h2⟩ := hown _ hb
    obtain ⟨r, _, ho⟩ := h.row _ _ h1
    obtain ⟨cur, hc⟩ := ownsRow_blk ho h2
    exact h.sets.ne hc rfl

theorem Core.turn {w w' : World} {s m1 m2 m3 : Nat} {i3 : List (Kd × Value)} {L L' : List It} (h : Core w s m1 m2 m3 i3 L) {k : Kd} {v v' : Value} {r' : List It} {S : Nat → Prop}
    (hv : (mapGet i3 k).getD (.slice none 0 0) = v)
    (hL : ∀ y, y.kd ≠ k → (y ∈ L' ↔ y ∈ L)) (hr : RowOf L' k r') (hnode : ∀ y ∈ L', w'.heap[y.b]? = some (.cells y.cells 58 (0, 0)))
    (ndb : (L'.map (·.b)).Nodup) (ndB : (L'.map (·.base)).Nodup)
    (hf : Fr (fun b => S b ∨ b = m3 ∨ some b = v.ownBlock) w w') (hSs : ¬ S s) (hSr : ∀ k v g, (k, v) ∈ i3 → v.ownBlock = some g → ¬ S g)
    (hs : MapIs kenc w' m3 (mapSet i3 k v')) (ho : w'.ownsRow 0 54 1 v' r'.length (r'.map It.ptr))
    (hg : ∀ g, v'.ownBlock = some g → v.ownBlock = some g ∨ w.heap.size ≤ g)
    (hx : ∀ y ∈ L', (∀ g, v'.ownBlock = some g → g ≠ y.b) ∧ (y ∈ L ∨ w.heap.size ≤ y.b)) : Core w' s m1 m2 m3 (mapSet i3 k v') L' := by
  have hn := h.sets.nodup
  have hsl := lt_blk h.root
  have h3s : s ≠ m3 := h.sets.ne h.root
  have hblk : ∀ k v g, (k, v) ∈ i3 → v.ownBlock = some g → g < w.heap.size ∧ g ≠ m3 := fun k v g hm hg' => by
    obtain ⟨r, _, ho'⟩ := h.row k v hm
    obtain ⟨cur, hc⟩ := ownsRow_blk ho' hg'
    exact ⟨lt_blk hc, h.sets.ne hc⟩
  have hvs : ∀ g, v.ownBlock = some g → g ≠ s := fun g hg' => (h.sepR _ _ g (h.own hv hg') hg').1
  refine ⟨hf.at h.root ?_, hs, hnode, ndb, ndB, fun k' u hm => ?_, fun y hy => ?_, fun y hy => ?_, fun k' u g hm hg' => ?_, fun k1 u1 k2 u2 g hm1 hm2 hg1 hg2 => ?_⟩
  · rintro (h1 | h1 | h1)
    · exact hSs h1
    · exact h3s h1
    · exact hvs s h1.symm rfl
  · rcases (mem_mapSet hn _).1 hm with he | ⟨hne, hm⟩
    · simp only [Prod.mk.injEq] at he
      obtain ⟨rfl, rfl⟩ := he
      exact ⟨r', hr, ho⟩
    · simp only at hne
      obtain ⟨r, h1, h2⟩ := h.row k' u hm
      refine ⟨r, h1.other (fun y hy => hL y (by rw [hy]; exact hne)), ownsRow_keep h2 hf (fun g hg' => ?_)⟩
      rintro (h3 | h3 | h3)
      · exact hSr _ _ g hm hg' h3
      · exact (hblk _ _ g hm hg').2 h3
      · exact hne (h.sepK _ _ _ _ g hm (h.own hv h3.symm) hg' h3.symm)
  · rw [List.mem_map]
    by_cases hy' : y.kd = k
    · exact ⟨(k, v'), (mem_mapSet hn _).2 (.inl rfl), hy'.symm⟩
    · obtain ⟨p, hp, he⟩ := List.mem_map.1 (h.all y ((hL y hy').1 hy))
      exact ⟨p, (mem_mapSet hn _).2 (.inr ⟨by rw [he]; exact hy', hp⟩), he⟩
  · rcases (hx y hy).2 with h1 | h1
    · exact h.sepS y h1
    · omega
  · rcases (mem_mapSet hn _).1 hm with he | ⟨hne, hm⟩
    · simp only [Prod.mk.injEq] at he
      obtain ⟨rfl, rfl⟩ := he
      refine ⟨?_, fun y hy => (hx y hy).1 g hg'⟩
      rcases hg g hg' with h1 | h1
      · exact hvs g h1
      · omega
    · refine ⟨(h.sepR _ _ g hm hg').1, fun y hy => ?_⟩
      rcases (hx y hy).2 with h1 | h1
      · exact (h.sepR _ _ g hm hg').2 y h1
      · have := (hblk _ _ g hm hg').1; omega
  · rcases (mem_mapSet hn _).1 hm1 with he1 | ⟨hne1, hn1⟩ <;> rcases (mem_mapSet hn _).1 hm2 with he2 | ⟨hne2, hn2⟩
    · simp only [Prod.mk.injEq] at he1 he2; rw [he1.1, he2.1]
    · simp only [Prod.mk.injEq] at he1
      obtain ⟨rfl, rfl⟩ := he1
      rcases hg g hg1 with h1 | h1
      · exact h.sepK _ _ _ _ g (h.own hv h1) hn2 h1 hg2
      · have := (hblk _ _ g hn2 hg2).1; omega
    · simp only [Prod.mk.injEq] at he2
      obtain ⟨rfl, rfl⟩ := he2
      rcases hg g hg2 with h1 | h1
      · exact h.sepK _ _ _ _ g hn1 (h.own hv h1) hg1 h1
      · have := (hblk _ _ g hn1 hg1).1; omega
    · exact h.sepK _ _ _ _ g hn1 hn2 hg1 hg2
end Go.Proofs.Ytanaicjeheacoaa
