/-
  Part 11 of what the statement leans on: Flip, FlipOk, Mine, SxG, Sets, Sets2, Leaf, One, One2.
-/
import Derived.Test.YtnjaaagiindclaaGreatDoorPk1
import Derived.Test.YtnjaaagiindclaaGreatDoorPk9
import Derived.Test.YtnjaaagiindclaaGreatDoorPk10
import Derived.Deep.LoopGhost
import Derived.Deep.QuietTactic
import Derived.BigRegion
import Derived.Deep.RegionHeld3
import Derived.Deep.RegionWith
/-
  A new generation: what was swept is so no more.
-/
namespace Go.Proofs.YtnjaaagiindclaaGreatDoor
open Go.RowKit Go.Deep

theorem flip_busy {s : Nat} {L : List It} {F : Nat → Prop} (w : World) (h0 : Is w s L F) (hL : L.length ≤ 1000000) (hn : 0 < num L false) :
    Calls Tryz.prog 184 #[.pointer (some ⟨s, 0, none⟩)] w fun e w' => e = .returned (.int .i64 33) ∧ Fr (fun _ => False) w w' := by
  obtain ⟨m1, m2, m3, i1, i2, i3, h, hF⟩ := h0
  have C := Lib.hid (count_any w h.core false hL)
  have hle : num L false ≤ 1000000 := Nat.le_trans (List.length_filter_le _ _) hL
  clear h hF
  generalize num L false = n at *
  go_enter Tryz.func184, Tryz.ntmps184
  go_wp2_with (go_at_call 129; refine C.out.mono ?_; rintro e w1 ⟨rfl, O1⟩; have O2 := Lib.hid O1; clear O1)
  go_ret
  exact ⟨rfl, O2.out⟩

/-- a span of the new generation -/
def It.turned (x : It) : It := ⟨x.b, x.id, x.base, (x.kd.1, x.kd.2.1, x.kd.2.2.1, false)⟩
def turnk (k : Kd) : Kd := (k.1, k.2.1, k.2.2.1, false)

theorem turnk_inj {k k' : Kd} (h : k.2.2.2 = true) (h' : k'.2.2.2 = true) (he : turnk k = turnk k') : k = k' := by
  obtain ⟨a, b, c, d⟩ := k
  obtain ⟨a', b', c', d'⟩ := k'
  simp only [turnk, Prod.mk.injEq] at *
  simp_all

theorem RowOf.turned {L r : List It} {k : Kd} (hall : ∀ x ∈ L, x.kd.2.2.2 = true) (hk : k.2.2.2 = true) (h : RowOf L k r) : RowOf (L.map It.turned) (turnk k) (r.map It.turned) := by
  refine ⟨?_, fun y => ?_⟩
  · rw [List.pairwise_map]
    exact h.ord
  · simp only [List.mem_map]
    constructor
    · rintro ⟨x, hx, rfl⟩
      obtain ⟨h1, h2⟩ := (h.mem x).1 hx
      exact ⟨⟨x, h1, rfl⟩, by rw [← h2]; rfl⟩
    · rintro ⟨⟨x, hx, rfl⟩, he⟩
      exact ⟨x, (h.mem x).2 ⟨hx, turnk_inj (hall x hx) hk he⟩, rfl⟩

theorem ptr_turned (r : List It) : (r.map It.turned).map It.ptr = r.map It.ptr := by
  rw [List.map_map]; rfl

theorem swept_all {L : List It} (h : num L false = 0) : ∀ x ∈ L, x.kd.2.2.2 = true := fun x hx => by
  unfold num at h
  have := List.filter_eq_nil_iff.1 (List.eq_nil_of_length_eq_zero h) x hx
  simpa using this

/-- a span's record as it stands: of the new generation, if its kind has been met, or it is among those of bs -/
def half (D : List Kd) (bs : List Nat) (x : It) : It := if x.kd ∈ D ∨ x.b ∈ bs then x.turned else x

/-- where the walk of Flip stands: the kinds D have been turned -/
structure Turning (w0 w : World) (m3 mt it : Nat) (i3 t3 : List (Kd × Value)) (L : List It) (D : List Kd) (k : Nat) : Prop where
  iter : Iter kenc w it m3 i3 D
  nd : D.Nodup
  sub : ∀ p ∈ D, p ∈ i3.map (·.1)
  len : D.length + k = i3.length
  new : MapIs kenc w mt t3
  node : ∀ x ∈ L, w.heap[x.b]? = some (.cells (half D [] x).cells 167 (0, 0))
  has : ∀ q v, (q, v) ∈ t3 ↔ ∃ p, p ∈ D ∧ (p, v) ∈ i3 ∧ q = turnk p ∧ ∃ x ∈ L, x.kd = p
  fr : Fr (fun b => ∃ x ∈ L, b = x.b) w0 w

/-- within a row r of kind p: its first j have been turned -/
structure Mid (w0 w : World) (m3 mt it : Nat) (i3 t3 : List (Kd × Value)) (L : List It) (D : List Kd) (p : Kd) (r : List It) (j : Nat) : Prop where
  iter : Iter kenc w it m3 i3 (p :: D)
  new : MapIs kenc w mt t3
  node : ∀ x ∈ L, w.heap[x.b]? = some (.cells (half D ((r.take j).map (·.b)) x).cells 167 (0, 0))
  fr : Fr (fun b => ∃ x ∈ L, b = x.b) w0 w

theorem Turning.into {w0 w w' : World} {m3 mt it k : Nat} {i3 t3 : List (Kd × Value)} {L r : List It} {D : List Kd} {p : Kd} (h : Turning w0 w m3 mt it i3 t3 L D k) (hit : w0.heap.size ≤ it) (hmt : mt ≠ it)
    (hL : ∀ x ∈ L, x.b < w0.heap.size) (hi : Iter kenc w' it m3 i3 (p :: D)) (hf : Fr (fun b => b = it) w w') : Mid w0 w' m3 mt it i3 t3 L D p r 0 :=
  ⟨hi, h.new.fr hf hmt, fun x hx => hf.at (h.node x hx) (fun e => by have := hL x hx; omega), h.fr.trans hf (fun b hb e => by omega)⟩

theorem Mid.quiet {w0 w w' : World} {m3 mt it j : Nat} {i3 t3 : List (Kd × Value)} {L r : List It} {D : List Kd} {p : Kd} (h : Mid w0 w m3 mt it i3 t3 L D p r j) (hf : Fr (fun _ => False) w w') : Mid w0 w' m3 mt it i3 t3 L D p r j :=
  ⟨h.iter.fr hf (fun x => x) (fun x => x), h.new.fr hf (fun x => x), fun x hx => hf.at (h.node x hx) (fun x => x), h.fr.trans hf (fun _ _ x => x.elim)⟩

theorem b_inj {L : List It} (h : (L.map (·.b)).Nodup) {x y : It} (hx : x ∈ L) (hy : y ∈ L) (e : x.b = y.b) : x = y := by
  obtain ⟨i, hi⟩ := List.mem_iff_getElem?.1 hx
  obtain ⟨j, hj⟩ := List.mem_iff_getElem?.1 hy
  have := nodup_inj h (i := i) (j := j) (a := y.b) (by rw [List.getElem?_map, hi]; simp [e]) (by rw [List.getElem?_map, hj]; rfl)
  subst this
  rw [hi] at hj; simpa using hj

theorem Mid.step {w0 w w' : World} {m3 mt it j : Nat} {i3 t3 : List (Kd × Value)} {L r : List It} {D : List Kd} {p : Kd} {x : It} (h : Mid w0 w m3 mt it i3 t3 L D p r j) (hn : (L.map (·.b)).Nodup) (hr : RowOf L p r) (hx : r[j]? = some x)
    (hL : ∀ x ∈ L, x.b ≠ it ∧ x.b ≠ mt ∧ x.b ≠ m3) (hf : Fr (fun b => b = x.b) w w') (hw : w'.heap[x.b]? = some (.cells x.turned.cells 167 (0, 0))) : Mid w0 w' m3 mt it i3 t3 L D p r (j + 1) := by
  have hxr := List.mem_of_getElem? hx
  have hxL : x ∈ L := ((hr.mem x).1 hxr).1
  obtain ⟨n1, n2, n3⟩ := hL x hxL
  have htake : r.take (j + 1) = r.take j ++ [x] := by rw [List.take_add_one, hx]; rfl
  refine ⟨h.iter.fr hf n1.symm n3.symm, h.new.fr hf n2.symm, fun y hy => ?_, h.fr.trans hf (fun b _ e => ⟨x, hxL, e⟩)⟩
  by_cases hyx : y = x
  · subst hyx
    have : half D ((r.take (j + 1)).map (·.b)) y = y.turned := by unfold half; rw [if_pos]; right; rw [htake]; simp
    rw [this]; exact hw
  · have hne : y.b ≠ x.b := fun e => hyx (b_inj hn hy hxL e)
    have : half D ((r.take (j + 1)).map (·.b)) y = half D ((r.take j).map (·.b)) y := by
      unfold half
      rw [htake]
      simp [hne]
    rw [this]
    exact hf.at (h.node y hy) hne

theorem half_row {L r : List It} {D : List Kd} {p : Kd} (hn : (L.map (·.b)).Nodup) (hr : RowOf L p r) {x : It} (hx : x ∈ L) : half D (r.map (·.b)) x = half (p :: D) [] x := by
  unfold half
  have : (x.kd ∈ D ∨ x.b ∈ r.map (·.b)) ↔ (x.kd ∈ p :: D ∨ x.b ∈ ([] : List Nat)) := by
    simp only [List.mem_cons, List.mem_map, List.not_mem_nil, or_false]
    constructor
    · rintro (h | ⟨y, hy, e⟩)
      · exact .inr h
      · have hyL := (hr.mem y).1 hy
        have := b_inj hn hyL.1 hx e
        subst this
        exact .inl hyL.2
    · rintro (h | h)
      · exact .inr ⟨x, (hr.mem x).2 ⟨hx, h⟩, rfl⟩
      · exact .inl h
  by_cases h : x.kd ∈ D ∨ x.b ∈ r.map (·.b)
  · rw [if_pos h, if_pos (this.1 h)]
  · rw [if_neg h, if_neg (fun e => h (this.2 e))]

theorem Turning.out {w0 w w1 w' : World} {m3 mt it k : Nat} {i3 t3 : List (Kd × Value)} {L r : List It} {D : List Kd} {p : Kd} {v : Value} (h : Turning w0 w m3 mt it i3 t3 L D k) (hp : (p, v) ∈ i3) (hpd : p ∉ D) (hn : (L.map (·.b)).Nodup) (hr : RowOf L p r)
    (hS : ∀ x ∈ L, x.kd.2.2.2 = true) (hm : Mid w0 w1 m3 mt it i3 t3 L D p r r.length) (h0 : 0 < r.length) (h3 : m3 ≠ mt) (hit : it ≠ mt) (hmt : w0.heap.size ≤ mt) (hL : ∀ x ∈ L, x.b < w0.heap.size)
    (hf : Fr (fun b => b = mt) w1 w') (hw : MapIs kenc w' mt (mapSet t3 (turnk p) v)) : Turning w0 w' m3 mt it i3 (mapSet t3 (turnk p) v) L (p :: D) (i3.length - D.length - 1) ∧ i3.length - D.length - 1 < k := by
  have nd := List.nodup_cons.2 ⟨hpd, h.nd⟩
  have sub : ∀ q ∈ p :: D, q ∈ i3.map (·.1) := by
    intro q hq
    rcases List.mem_cons.1 hq with rfl | hq
    · exact List.mem_map.2 ⟨(q, v), hp, rfl⟩
    · exact h.sub q hq
  have hl := nodup_le nd h.iter.map.nodup sub
  have hlen := h.len
  simp only [List.length_cons, List.length_map] at hl
  obtain ⟨x, hx⟩ := List.exists_mem_of_length_pos h0
  have hxL := (hr.mem x).1 hx
  have hps : p.2.2.2 = true := by rw [← hxL.2]; exact hS x hxL.1
  have hi3 := h.iter.map.nodup
  refine ⟨⟨hm.iter.fr hf hit h3, nd, sub, by simp only [List.length_cons]; omega, hw, fun y hy => ?_, fun q u => ?_, hm.fr.trans hf (fun b hb e => by omega)⟩, by omega⟩
  · have := hm.node y hy
    rw [List.take_length, half_row hn hr hy] at this
    exact hf.at this (fun e => by have := hL y hy; omega)
  · rw [mem_mapSet h.new.nodup]
    simp only [Prod.mk.injEq]
    rw [h.has]
    constructor
    · rintro (⟨rfl, rfl⟩ | ⟨hq, p', hp', h1, h2, h3⟩)
      · exact ⟨p, by simp, hp, rfl, x, hxL⟩
      · exact ⟨p', List.mem_cons_of_mem _ hp', h1, h2, h3⟩
    · rintro ⟨p', hp', h1, rfl, y, hy, hyk⟩
      rcases List.mem_cons.1 hp' with rfl | hp2
      · left
        refine ⟨rfl, ?_⟩
        have e1 := (mapGet_some hi3).2 h1
        have e2 := (mapGet_some hi3).2 hp
        rw [e1] at e2
        simpa using e2
      · right
        refine ⟨fun e => ?_, p', hp2, h1, rfl, y, hy, hyk⟩
        have : p' = p := turnk_inj (by rw [← hyk]; exact hS y hy) hps e
        exact hpd (this ▸ hp2)

theorem Turning.none {w0 w w1 : World} {m3 mt it k : Nat} {i3 t3 : List (Kd × Value)} {L : List It} {D : List Kd} {p : Kd} {v : Value} (h : Turning w0 w m3 mt it i3 t3 L D k) (hp : (p, v) ∈ i3) (hpd : p ∉ D) (hn : (L.map (·.b)).Nodup) (hr : RowOf L p [])
    (hm : Mid w0 w1 m3 mt it i3 t3 L D p [] 0) : Turning w0 w1 m3 mt it i3 t3 L (p :: D) (i3.length - D.length - 1) ∧ i3.length - D.length - 1 < k := by
  have nd := List.nodup_cons.2 ⟨hpd, h.nd⟩
  have sub : ∀ q ∈ p :: D, q ∈ i3.map (·.1) := by
    intro q hq
    rcases List.mem_cons.1 hq with rfl | hq
    · exact List.mem_map.2 ⟨(q, v), hp, rfl⟩
    · exact h.sub q hq
  have hl := nodup_le nd h.iter.map.nodup sub
  have hlen := h.len
  simp only [List.length_cons, List.length_map] at hl
  refine ⟨⟨hm.iter, nd, sub, by simp only [List.length_cons]; omega, hm.new, fun y hy => ?_, fun q u => ?_, hm.fr⟩, by omega⟩
  · have := hm.node y hy
    rw [List.take_nil, half_row hn hr hy] at this
    exact this
  · rw [h.has]
    constructor
    · rintro ⟨p', hp', h⟩; exact ⟨p', List.mem_cons_of_mem _ hp', h⟩
    · rintro ⟨p', hp', h1, h2, y, hy, hyk⟩
      rcases List.mem_cons.1 hp' with rfl | hp'
      · have := (hr.mem y).2 ⟨hy, hyk⟩; simp at this
      · exact ⟨p', hp', h1, h2, y, hy, hyk⟩

/-- all kinds have been turned, and the new map is the sets' -/
theorem flipped {w w1 wr w' : World} {s m1 m2 m3 mt it k : Nat} {i1 i2 : List (Int × Value)} {i3 t3 : List (Kd × Value)} {L : List It} {D : List Kd} {F : Nat → Prop} (H : Sets w s m1 m2 m3 i1 i2 i3 L) (hF : ∀ b, sfp s m1 m2 m3 i3 L b → F b)
    (hS : ∀ x ∈ L, x.kd.2.2.2 = true) (F1 : Fr (fun _ => False) w w1) (T : Turning w1 wr m3 mt it i3 t3 L D k) (hmt : w1.heap.size ≤ mt) (hall : ∀ p ∈ i3, p.1 ∈ D) (F2 : Fr (fun b => b = s) wr w')
    (hroot : w'.heap[s]? = some (.cells #[.map (some m1), .map (some m2), .map (some mt)] 163 (0, 0))) : Is w' s (L.map It.turned) (fun b => F b ∨ w.heap.size ≤ b) ∧ Fr F w w' := by
  have g1 : Fr (fun b => ∃ x ∈ L, b = x.b) w wr := (F1.mono (fun _ _ => False.elim)).trans T.fr (fun _ _ h => h)
  have g2 : Fr (fun b => (∃ x ∈ L, b = x.b) ∨ b = s) w w' := (g1.mono (fun _ _ h => .inl h)).trans F2 (fun _ _ h => .inr h)
  have hsz := F1.size
  have hsl := lt_blk H.core.root
  have hD : ∀ x ∈ L, x.kd ∈ D := fun x hx => by
    obtain ⟨p, hp, he⟩ := List.mem_map.1 (H.core.all x hx)
    rw [← he]; exact hall p hp
  have hm1 : ¬ ((∃ x ∈ L, m1 = x.b) ∨ m1 = s) := by
    rintro (⟨x, hx, e⟩ | e)
    · exact H.ids.ne (H.core.node x hx) e.symm
    · exact H.ids.ne H.core.root e.symm
  have hm2 : ¬ ((∃ x ∈ L, m2 = x.b) ∨ m2 = s) := by
    rintro (⟨x, hx, e⟩ | e)
    · exact H.bases.ne (H.core.node x hx) e.symm
    · exact H.bases.ne H.core.root e.symm
  have hids := H.ids.lt
  have hbases := H.bases.lt
  have hrow : ∀ q v, (q, v) ∈ t3 → ∃ p, p.2.2.2 = true ∧ (p, v) ∈ i3 ∧ q = turnk p := fun q v hm => by
    obtain ⟨p, _, h2, h3, x, hx, he⟩ := (T.has q v).1 hm
    exact ⟨p, by rw [← he]; exact hS x hx, h2, h3⟩
  have hmem : ∀ y, y ∈ L.map It.turned → ∃ x ∈ L, x.turned = y := fun y hy => List.mem_map.1 hy
  refine ⟨⟨m1, m2, mt, i1, i2, t3, ⟨⟨hroot, T.new.fr F2 (fun e => by omega), fun y hy => ?_, ?_, ?_, fun q v hm => ?_, fun y hy => ?_, fun y hy => ?_, fun q v g hm hg => ?_, fun q v q' v' g hm hm' hg hg' => ?_⟩,
    H.ids.fr g2 hm1, H.bases.fr g2 hm2, fun z v => ?_, fun z v => ?_, ?_, ⟨H.sepM.1, by omega, by omega⟩⟩, fun b hb => ?_⟩, g2.mono (fun b _ hb => hF b ?_)⟩
  · obtain ⟨x, hx, rfl⟩ := hmem y hy
    have := T.node x hx
    have hh : half D [] x = x.turned := by unfold half; rw [if_pos (.inl (hD x hx))]
    rw [hh] at this
    exact F2.at this (fun e => H.core.sepS x hx e)
  · rw [List.map_map]; exact H.core.ndb
  · rw [List.map_map]; exact H.core.ndB
  · obtain ⟨p, hps, hp, rfl⟩ := hrow q v hm
    obtain ⟨r, hr, ho⟩ := H.core.row p v hp
    refine ⟨r.map It.turned, hr.turned hS hps, ?_⟩
    rw [ptr_turned, List.length_map]
    refine ownsRow_keep ho g2 (fun g hg => ?_)
    rintro (⟨x, hx, e⟩ | e)
    · exact (H.core.sepR p v g hp hg).2 x hx e
    · exact (H.core.sepR p v g hp hg).1 e
  · obtain ⟨x, hx, rfl⟩ := hmem y hy
    obtain ⟨⟨p, v⟩, hp, he⟩ := List.mem_map.1 (H.core.all x hx)
    simp only at he
    subst he
    exact List.mem_map.2 ⟨(turnk x.kd, v), (T.has _ _).2 ⟨x.kd, hD x hx, hp, rfl, x, hx, rfl⟩, rfl⟩
  · obtain ⟨x, hx, rfl⟩ := hmem y hy
    exact H.core.sepS x hx
  · obtain ⟨p, _, hp, _⟩ := hrow q v hm
    refine ⟨(H.core.sepR p v g hp hg).1, fun y hy => ?_⟩
    obtain ⟨x, hx, rfl⟩ := hmem y hy
    exact (H.core.sepR p v g hp hg).2 x hx
  · obtain ⟨p, _, hp, rfl⟩ := hrow q v hm
    obtain ⟨p', _, hp', rfl⟩ := hrow q' v' hm'
    rw [H.core.sepK p v p' v' g hp hp' hg hg']
  · rw [H.idsL]
    constructor
    · rintro ⟨x, hx, h1, h2⟩; exact ⟨x.turned, List.mem_map_of_mem hx, h1, h2⟩
    · rintro ⟨y, hy, h1, h2⟩
      obtain ⟨x, hx, rfl⟩ := hmem y hy
      exact ⟨x, hx, h1, h2⟩
  · rw [H.basesL]
    constructor
    · rintro ⟨x, hx, h1, h2⟩; exact ⟨x.turned, List.mem_map_of_mem hx, h1, h2⟩
    · rintro ⟨y, hy, h1, h2⟩
      obtain ⟨x, hx, rfl⟩ := hmem y hy
      exact ⟨x, hx, h1, h2⟩
  · rw [List.map_map]; exact H.ndI
  · rcases hb with hb | hb | hb | hb | ⟨y, hy, hb⟩ | ⟨q, v, hm, hb⟩
    · exact .inl (hF b (.inl hb))
    · exact .inl (hF b (.inr (.inl hb)))
    · exact .inl (hF b (.inr (.inr (.inl hb))))
    · exact .inr (by omega)
    · obtain ⟨x, hx, rfl⟩ := hmem y hy
      exact .inl (hF b (.inr (.inr (.inr (.inr (.inl ⟨x, hx, hb⟩))))))
    · obtain ⟨p, _, hp, _⟩ := hrow q v hm
      exact .inl (hF b (.inr (.inr (.inr (.inr (.inr ⟨p, v, hp, hb⟩))))))
  · rcases hb with ⟨x, hx, e⟩ | e
    · exact .inr (.inr (.inr (.inr (.inl ⟨x, hx, e⟩))))
    · exact .inl e
end Go.Proofs.YtnjaaagiindclaaGreatDoor

/-
  A new generation: the walk.
-/
namespace Go.Proofs.YtnjaaagiindclaaGreatDoor
open Go.RowKit Go.Deep

/-- a pointer in a row -/
theorem row_ptr {w : World} {T c : Nat} {a : Option Addr} {r : List It} {j : Nat} {x : It} (h : w.ownsRow 0 T 1 (.slice a r.length c) r.length (r.map It.ptr)) (hj : r[j]? = some x) :
    ∃ g, a = some ⟨g, 0, none⟩ ∧ w.cell? ⟨g, j, none⟩ = some (.pointer (some ⟨x.b, 0, none⟩)) := by
  have hlt : j < r.length := (List.getElem?_eq_some_iff.1 hj).1
  rcases h.2 with ⟨h1, h2⟩ | ⟨g, cap, cur, hv, _⟩
  · simp only [Value.slice.injEq] at h1
    have := h1.2.1; omega
  · simp only [Value.slice.injEq] at hv
    obtain ⟨rfl, _, rfl⟩ := hv
    refine ⟨g, rfl, ?_⟩
    have := World.ownsRow.cells h (by rfl) j x.ptr (by rw [List.getElem?_map, hj]; rfl)
    have hadd : (⟨g, 0, none⟩ : Addr).add j = ⟨g, j, none⟩ := by unfold Addr.add; split <;> simp_all
    rw [hadd] at this
    exact this

theorem turned_cells {w : World} {x : It} {D : List Kd} {bs : List Nat} {k1 : Int} {k2 k3 k4 : Bool} (h : w.heap[x.b]? = some (.cells (half D bs x).cells 167 (0, 0))) (hk : x.kd = (k1, k2, k3, k4)) :
    Fr (fun b => b = x.b) w ((((w.setCell ⟨x.b, 2, none⟩ (.int .i64 k1)).setCell ⟨x.b, 3, none⟩ (.bool k2)).setCell ⟨x.b, 4, none⟩ (.bool k3)).setCell ⟨x.b, 5, none⟩ (.bool false)) ∧
    ((((w.setCell ⟨x.b, 2, none⟩ (.int .i64 k1)).setCell ⟨x.b, 3, none⟩ (.bool k2)).setCell ⟨x.b, 4, none⟩ (.bool k3)).setCell ⟨x.b, 5, none⟩ (.bool false)).heap[x.b]? = some (.cells x.turned.cells 167 (0, 0)) := by
  have e : (half D bs x).id = x.id ∧ (half D bs x).base = x.base := by unfold half; split <;> exact ⟨rfl, rfl⟩
  refine ⟨((((Fr.refl (fun b => b = x.b) w).setCell ⟨x.b, 2, none⟩ _ (.inl rfl)).setCell ⟨x.b, 3, none⟩ _ (.inl rfl)).setCell ⟨x.b, 4, none⟩ _ (.inl rfl)).setCell ⟨x.b, 5, none⟩ _ (.inl rfl), ?_⟩
  rw [heap_setCell_at (heap_setCell_at (heap_setCell_at (heap_setCell_at h)))]
  unfold It.cells
  rw [e.1, e.2]
  simp [It.turned, hk]

set_option maxRecDepth 100000 in
set_option maxHeartbeats 8000000 in
theorem flip_ok {s : Nat} {L : List It} {F : Nat → Prop} (w : World) (h0 : Is w s L F) (hL : L.length ≤ 1000000) (hn : num L false = 0) :
    Calls Tryz.prog 184 #[.pointer (some ⟨s, 0, none⟩)] w fun e w' => e = .returned (.int .i64 0) ∧ Is w' s (L.map It.turned) (fun b => F b ∨ w.heap.size ≤ b) ∧ Fr F w w' := by
  obtain ⟨m1, m2, m3, i1, i2, i3, h, hF⟩ := h0
  have hc := count_any w h.core false hL
  rw [hn] at hc
  have HC := Lib.hid hc
  have H := Lib.hid h
  have HF := Lib.hid hF
  have HS := Lib.hid (swept_all hn)
  clear h hF hc hn
  go_enter Tryz.func184, Tryz.ntmps184
  go_wp2_with (first | (go_at_call 129; refine HC.out.mono ?_; rintro e w1 ⟨rfl, f1⟩; have F1 := Lib.hid f1; clear f1; have C1 := Lib.hid (H.out.core.quiet F1.out); have c3 := (blk3 C1.out.root).2.2; have hsl := lt_blk C1.out.root; have M1 := Lib.hid (C1.out.sets.fr (S := fun _ => False) ((Fr.refl _ w1).alloc (.map #[] 0)) (fun x => x))) | (refine wpList_make_map (by rfl) _ (by rfl) ?_) | (refine wpList_iter_new (by rfl) Tryz.underlying161 _ (by rfl) M1.out (by rfl) ?_; intro oo hit; go_simp))
  have hne : w1.heap.size + 1 ≠ m3 := by have := C1.out.sets.lt; omega
  go_loopg [] i3.length (fun k wr => ∃ (D : List Kd) (t3 : List (Kd × Value)), Hid (Turning w1 wr m3 w1.heap.size (w1.heap.size + 1) i3 t3 L D k))
  case atStart =>
    refine ⟨[], [], Lib.hid ⟨?_, by simp, by simp, by simp, ?_, fun x hx => ?_, by simp, ((Fr.refl _ w1).alloc _).alloc _⟩⟩
    · simpa using hit
    · exact MapIs.new _ (by rw [heap_alloc, if_neg (by simp), heap_alloc, if_pos rfl])
    · have hf : Fr (fun _ => False) w1 ((w1.alloc (.map #[] 0)).alloc oo) := ((Fr.refl _ w1).alloc _).alloc _
      simpa [half] using hf.at (C1.out.node x hx) (fun x => x)
  case round =>
    obtain ⟨D, t3, HT⟩ := hrel
    clear hit
    rcases run_iter_next (P := Tryz.prog) HT.out.iter hne 0 with ⟨hall, hr⟩ | ⟨⟨⟨pk1, pk2, pk3, pk4⟩, pv⟩, hp, hpd, wn, hr, hk1, hk2, hk3⟩
    · have hrs : wr.heap[s]? = some (.cells #[.map (some m1), .map (some m2), .map (some m3)] 163 (0, 0)) := HT.out.fr.at C1.out.root (fun ⟨x, hx, he⟩ => C1.out.sepS x hx he.symm)
      have q3 := (blk3 hrs).2.2
      have q4 := free_blk hrs 2
      have HR := Lib.hid hrs
      have HA := Lib.hid hall
      clear c3 hrs hall
      go_wp2_with (refine wpList_next_run (by rfl) _ (by rfl) (by rfl) hr ?_; clear hr)
      go_ret
      refine ⟨rfl, flipped H.out HF.out HS.out F1.out HT.out (Nat.le_refl _) HA.out ((Fr.refl _ wr).setCell _ _ (.inl rfl)) ?_⟩
      rw [heap_setCell_at HR.out]
      rfl
    · obtain ⟨r, hro, how⟩ := C1.out.row _ _ hp
      obtain ⟨ra, rc, rfl⟩ := ownsRow_form how
      have hsl1 := lt_blk C1.out.root
      have hb : ∀ x ∈ L, x.b < w1.heap.size := fun x hx => lt_blk (C1.out.node x hx)
      have hit1 : Fr (fun b => b = w1.heap.size + 1) wr wn := hk2
      have M0 := Lib.hid (HT.out.into (r := r) (Nat.le_succ _) (by omega) hb hk1 hk2)
      have HP := Lib.hid (And.intro hp (And.intro hpd (And.intro hro how)))
      have hrl : r.length ≤ 1000000 := Nat.le_trans (by rw [row_len hro C1.out.ndb]; exact List.length_filter_le _ _) hL
      have HB := Lib.hid hb
      have hsz : w1.heap.size ≤ wn.heap.size := M0.out.fr.size
      have HZ := Lib.hid hsz
      clear hp hpd hro how hk1 hk2 hit1 hb hsz
      simp only [kenc] at hr hk3
      go_wp2_with (first | (refine wpList_next_run (by rfl) _ (by rfl) (by rfl) hr ?_; clear hr) | (refine wpList_entry (by rfl) _ (by rfl) (by rfl) hk3 ?_; clear hk3))
      have hwk : (wn.alloc (.cells #[.int .i64 pk1, .bool pk2, .bool pk3, .bool false] 165)).heap[wn.heap.size]? = some (.cells #[.int .i64 pk1, .bool pk2, .bool pk3, .bool false] 165 (0, 0)) := by rw [heap_alloc, if_pos rfl]
      have K0 := Lib.hid hwk
      have M1' := Lib.hid (M0.out.quiet ((Fr.refl _ wn).alloc (.cells #[.int .i64 pk1, .bool pk2, .bool pk3, .bool false] 165)))
      clear hwk M0
      go_loopg [25] r.length (fun k i wi => ∃ j : Nat, i = .int .i64 j ∧ j + k = r.length ∧ Hid (Mid w1 wi m3 w1.heap.size (w1.heap.size + 1) i3 t3 L D (pk1, pk2, pk3, pk4) r j ∧ wi.heap[wn.heap.size]? = some (.cells #[.int .i64 pk1, .bool pk2, .bool pk3, .bool false] 165 (0, 0))))
      case atStart => exact ⟨0, rfl, by simp, Lib.hid ⟨M1'.out, K0.out⟩⟩
      case round =>
        obtain ⟨j, rfl, hj, HM⟩ := hrel
        by_cases hlt : j < r.length
        · obtain ⟨x, hx⟩ : ∃ x, r[j]? = some x := ⟨_, List.getElem?_eq_getElem hlt⟩
          have hxL := (HP.out.2.2.1.mem x).1 (List.mem_of_getElem? hx)
          have o1 := ownsRow_keep HP.out.2.2.2 HM.out.1.fr (fun g hg ⟨y, hy, e⟩ => (C1.out.sepR _ _ g HP.out.1 hg).2 y hy e)
          obtain ⟨g, rfl, e0⟩ := row_ptr o1 hx
          obtain ⟨k0, k1, k2, k3⟩ := blk4 HM.out.2
          have hnode := HM.out.1.node x hxL.1
          have z2 := blk6 hnode
          have f2 := free_blk hnode 2
          have f3 := free_blk hnode 3
          have f4 := free_blk hnode 4
          have f5 := free_blk hnode 5
          have HN := Lib.hid hnode
          clear hnode
          have HX := Lib.hid (And.intro hx hxL)
          have HJ := Lib.hid hj
          clear hx hxL o1 hj
          go_wp2_with fail
          go_roundg (gk - 1)
          case measure => have := HJ.out; omega
          case rel =>
            have := HJ.out
            have ht := turned_cells HN.out HX.out.2.2
            refine ⟨j + 1, by go_num, by omega, Lib.hid ⟨HM.out.1.step C1.out.ndb HP.out.2.2.1 HX.out.1 (fun y hy => ?_) ht.1 ht.2, ht.1.at HM.out.2 ?_⟩⟩
            · have := HB.out y hy
              exact ⟨by omega, by omega, C1.out.sets.ne (C1.out.node y hy)⟩
            · have := HB.out x HX.out.2.1
              have := HZ.out
              intro e; omega
        · have he : j = r.length := by omega
          subst he
          by_cases h0 : 0 < r.length
          · obtain ⟨k0, k1, k2, k3⟩ := blk4 HM.out.2
            obtain ⟨wm, rm, hm1, hm2⟩ := run_map_set (w := wr) keyLaw_kind Tryz.underlying161 HM.out.1.new (pk1, pk2, pk3, false) (.slice ra r.length rc)
            unfold kenc at rm
            simp only at rm
            have HQ := Lib.hid (And.intro hm1 hm2)
            clear hm1 hm2
            go_wp2_with fail
            have TO := HT.out.out HP.out.1 HP.out.2.1 C1.out.ndb HP.out.2.2.1 HS.out HM.out.1 h0 (by have := C1.out.sets.lt; omega) (by omega) (Nat.le_refl _) HB.out HQ.out.2 HQ.out.1
            go_roundg (i3.length - D.length - 1)
            case measure => exact TO.2
            case rel => exact ⟨_, _, Lib.hid TO.1⟩
          · have hr0 : r = [] := List.eq_nil_of_length_eq_zero (by omega)
            have TO := Lib.hid (HT.out.none HP.out.1 HP.out.2.1 C1.out.ndb (hr0 ▸ HP.out.2.2.1) (w1 := wr) (by have := HM.out.1; rw [hr0] at this; exact this))
            clear hr0
            go_wp2_with fail
            go_roundg (i3.length - D.length - 1)
            case measure => exact TO.out.2
            case rel => exact ⟨_, _, Lib.hid TO.out.1⟩
end Go.Proofs.YtnjaaagiindclaaGreatDoor

/-
  Sets whose blocks a predicate names: what each word answers, and what it leaves.
-/
namespace Go.Proofs.YtnjaaagiindclaaGreatDoor
open Go.RowKit Go.Deep

/-- sets of which F names the blocks, all of them there -/
structure Mine (w : World) (s : Nat) (L : List It) (F : Nat → Prop) : Prop where
  is : Is w s L F
  lt : ∀ b, F b → b < w.heap.size

/-- from w to w', what F names may have turned; F' names no more than that and new blocks -/
structure Step (F F' : Nat → Prop) (w w' : World) : Prop where
  fr : Fr F w w'
  new : ∀ b, F' b → F b ∨ w.heap.size ≤ b

theorem Is.ids {w : World} {s : Nat} {L : List It} {F : Nat → Prop} (h : Is w s L F) : (L.map (·.id)).Nodup := by
  obtain ⟨m1, m2, m3, i1, i2, i3, h1, h2⟩ := h; exact h1.ndI
theorem Is.bases {w : World} {s : Nat} {L : List It} {F : Nat → Prop} (h : Is w s L F) : (L.map (·.base)).Nodup := by
  obtain ⟨m1, m2, m3, i1, i2, i3, h1, h2⟩ := h; exact h1.core.ndB

theorem sfp_lt {w : World} {s m1 m2 m3 : Nat} {i1 i2 : List (Int × Value)} {i3 : List (Kd × Value)} {L : List It} (h : Sets w s m1 m2 m3 i1 i2 i3 L) : ∀ b, sfp s m1 m2 m3 i3 L b → b < w.heap.size := by
  rintro b (rfl | rfl | rfl | rfl | ⟨x, hx, rfl⟩ | ⟨k, v, hm, hb⟩)
  · exact lt_blk h.core.root
  · exact h.ids.lt
  · exact h.bases.lt
  · exact h.core.sets.lt
  · exact lt_blk (h.core.node x hx)
  · obtain ⟨r, _, ho⟩ := h.core.row k v hm
    obtain ⟨cur, hc⟩ := ownsRow_blk ho hb
    exact lt_blk hc

theorem Mine.quiet {w w' : World} {s : Nat} {L : List It} {F : Nat → Prop} (h : Mine w s L F) (hf : Fr (fun _ => False) w w') : Mine w' s L F :=
  ⟨h.is.quiet hf, fun b hb => Nat.lt_of_lt_of_le (h.lt b hb) hf.size⟩

theorem sfp_keep {w w' : World} {s m1 m2 m3 : Nat} {i1 i2 : List (Int × Value)} {i3 : List (Kd × Value)} {L : List It} {S : Nat → Prop} (h : Sets w s m1 m2 m3 i1 i2 i3 L) (hf : Fr S w w') (hS : ∀ b, sfp s m1 m2 m3 i3 L b → ¬ S b) : Sets w' s m1 m2 m3 i1 i2 i3 L :=
  ⟨h.core.keep hf (hS _ (.inl rfl)) (hS _ (.inr (.inr (.inr (.inl rfl))))) (fun x hx => hS _ (.inr (.inr (.inr (.inr (.inl ⟨x, hx, rfl⟩)))))) (fun k v g hm hg => hS _ (.inr (.inr (.inr (.inr (.inr ⟨k, v, hm, hg⟩)))))),
    h.ids.fr hf (hS _ (.inr (.inl rfl))), h.bases.fr hf (hS _ (.inr (.inr (.inl rfl)))), h.idsL, h.basesL, h.ndI, h.sepM⟩

/-- what others do leaves the sets -/
theorem Mine.keep {w w' : World} {s : Nat} {L : List It} {F S : Nat → Prop} (h : Mine w s L F) (hf : Fr S w w') (hS : ∀ b, F b → ¬ S b) : Mine w' s L F := by
  obtain ⟨m1, m2, m3, i1, i2, i3, h1, h2⟩ := h.is
  exact ⟨⟨m1, m2, m3, i1, i2, i3, sfp_keep h1 hf (fun b hb => hS b (h2 b hb)), h2⟩, fun b hb => Nat.lt_of_lt_of_le (h.lt b hb) hf.size⟩

theorem Mine.next {w w' : World} {s : Nat} {L' : List It} {F : Nat → Prop} (hi : Is w' s L' (fun b => F b ∨ w.heap.size ≤ b)) (hf : Fr F w w') : ∃ F', Mine w' s L' F' ∧ Step F F' w w' := by
  obtain ⟨m1, m2, m3, i1, i2, i3, h1, h2⟩ := hi
  exact ⟨sfp s m1 m2 m3 i3 L', ⟨⟨m1, m2, m3, i1, i2, i3, h1, fun b hb => hb⟩, sfp_lt h1⟩, hf, h2⟩

theorem Step.none {F : Nat → Prop} {w w' : World} (hf : Fr (fun _ => False) w w') : Step F F w w' := ⟨hf.mono (fun _ _ => False.elim), fun _ h => .inl h⟩
theorem Step.trans {F F' F'' : Nat → Prop} {w w' w'' : World} (h : Step F F' w w') (h' : Step F' F'' w' w'') : Step F F'' w w'' :=
  ⟨h.fr.trans h'.fr (fun b hb h2 => (h.new b h2).elim id (fun h3 => by omega)), fun b hb => (h'.new b hb).elim (h.new b) (fun h2 => .inr (Nat.le_trans h.fr.size h2))⟩

/-- the sets are at L' -/
def Now (w : World) (s : Nat) (L' : List It) (F : Nat → Prop) (w' : World) : Prop := ∃ F', Mine w' s L' F' ∧ Step F F' w w'

theorem new_m (w : World) : Calls Tryz.prog 44 #[] w fun e w' => ∃ s, e = .returned (.pointer (some ⟨s, 0, none⟩)) ∧ Hid (Now w s [] (fun _ => False) w') :=
  (new_any w).mono fun e w' ⟨s, he, hi, hf⟩ => ⟨s, he, Lib.hid (Mine.next (F := fun _ => False) (hi.mono (fun b hb => .inr hb)) hf)⟩

theorem put_m {s : Nat} {L : List It} {F : Nat → Prop} {w : World} (h : Mine w s L F) (id base cls : Int) (np fu sw : Bool) (hL : L.length ≤ 1000000) :
    Calls Tryz.prog 226 #[.pointer (some ⟨s, 0, none⟩), .int .i64 id, .int .u64 base, .int .i64 cls, .bool np, .bool fu, .bool sw] w fun e w' =>
      ∃ c L', e = .returned (.int .i64 c) ∧ Hid (Now w s L' F w' ∧ Puts L id base cls np fu sw c L') := by
  by_cases h1 : id < 1 ∨ cls < 0 ∨ 68 ≤ cls
  · refine (put_arg s w id base cls np fu sw h1).mono fun e w' ⟨he, hw⟩ => ?_
    subst hw
    exact ⟨1, L, he, Lib.hid ⟨⟨F, h, Step.none (Fr.refl _ _)⟩, .inl ⟨h1, rfl, rfl⟩⟩⟩
  · by_cases h2 : ∃ x ∈ L, x.id = id ∨ x.base = base
    · refine (put_twice w h.is id base cls np fu sw (by omega) (by omega) h2).mono fun e w' ⟨he, hw⟩ => ?_
      subst hw
      exact ⟨34, L, he, Lib.hid ⟨⟨F, h, Step.none (Fr.refl _ _)⟩, .inr (.inl ⟨by omega, h2, rfl, rfl⟩)⟩⟩
    · have hI : ∀ y ∈ L, y.id ≠ id := fun y hy he => h2 ⟨y, hy, .inl he⟩
      have hB : ∀ y ∈ L, y.base ≠ base := fun y hy he => h2 ⟨y, hy, .inr he⟩
      refine (put_ok w h.is id base cls np fu sw (by omega) (by omega) hI hB hL).mono fun e w' ⟨he, hi, hf⟩ => ?_
      exact ⟨0, _, he, Lib.hid ⟨Mine.next hi hf, .inr (.inr ⟨by omega, hI, hB, rfl, _, rfl⟩)⟩⟩

theorem take_m {s : Nat} {L : List It} {F : Nat → Prop} {w : World} (h : Mine w s L F) (k1 : Int) (k2 k3 k4 : Bool) (hL : L.length ≤ 1000000) :
    Calls Tryz.prog 248 #[.pointer (some ⟨s, 0, none⟩), .int .i64 k1, .bool k2, .bool k3, .bool k4] w fun e w' =>
      ∃ id ok L', e = .returned (.tuple #[.int .i64 id, .bool ok]) ∧ Hid (Now w s L' F w' ∧ Took L (k1, k2, k3, k4) id ok L') :=
  (take_any w h.is k1 k2 k3 k4 hL).mono fun e w' ⟨id, ok, L', he, ht, hi, hf⟩ => ⟨id, ok, L', he, Lib.hid ⟨Mine.next hi hf, ht⟩⟩

theorem remove_m {s : Nat} {L : List It} {F : Nat → Prop} {w : World} (h : Mine w s L F) (id : Int) (hL : L.length ≤ 1000000) :
    Calls Tryz.prog 178 #[.pointer (some ⟨s, 0, none⟩), .int .i64 id] w fun e w' => ∃ c L', e = .returned (.int .i64 c) ∧ Hid (Now w s L' F w' ∧ Removes L id c L') := by
  by_cases hx : ∃ x ∈ L, x.id = id
  · obtain ⟨x, hx, rfl⟩ := hx
    exact (remove_ok w h.is x hx hL).mono fun e w' ⟨he, hi, hf⟩ => ⟨0, _, he, Lib.hid ⟨Mine.next hi hf, .inr ⟨rfl, ⟨x, hx, rfl⟩, rfl⟩⟩⟩
  · obtain ⟨m1, m2, m3, i1, i2, i3, h1, h2⟩ := h.is
    refine (remove_none w h1 id (fun y hy he => hx ⟨y, hy, he⟩)).mono fun e w' ⟨he, hw⟩ => ?_
    subst hw
    exact ⟨35, L, he, Lib.hid ⟨⟨F, h, Step.none (Fr.refl _ _)⟩, .inl ⟨rfl, rfl, fun y hy he => hx ⟨y, hy, he⟩⟩⟩⟩

theorem count_m {s : Nat} {L : List It} {F : Nat → Prop} {w : World} (h : Mine w s L F) (b : Bool) (hL : L.length ≤ 1000000) :
    Calls Tryz.prog 129 #[.pointer (some ⟨s, 0, none⟩), .bool b] w fun e w' => e = .returned (.int .i64 (num L b)) ∧ Hid (Fr (fun _ => False) w w') := by
  obtain ⟨m1, m2, m3, i1, i2, i3, h1, h2⟩ := h.is
  exact (count_any w h1.core b hL).mono fun e w' ⟨he, hf⟩ => ⟨he, Lib.hid hf⟩

theorem least_m {s : Nat} {L : List It} {F : Nat → Prop} {w : World} (h : Mine w s L F) (hL : L.length ≤ 1000000) :
    Calls Tryz.prog 177 #[.pointer (some ⟨s, 0, none⟩)] w fun e w' => ∃ id ok, e = .returned (.tuple #[.int .i64 id, .bool ok]) ∧ Hid (Fr (fun _ => False) w w' ∧ Leasts L id ok) := by
  obtain ⟨m1, m2, m3, i1, i2, i3, h1, h2⟩ := h.is
  exact (least_any w h1.core hL).mono fun e w' ⟨id, ok, he, hl, hf⟩ => ⟨id, ok, he, Lib.hid ⟨hf, hl⟩⟩

/-- what Flip answers, and what is there then -/
def Flips (L : List It) (c : Int) (L' : List It) : Prop := (0 < num L false ∧ c = 33 ∧ L' = L) ∨ (num L false = 0 ∧ c = 0 ∧ L' = L.map It.turned)

theorem flip_m {s : Nat} {L : List It} {F : Nat → Prop} {w : World} (h : Mine w s L F) (hL : L.length ≤ 1000000) :
    Calls Tryz.prog 184 #[.pointer (some ⟨s, 0, none⟩)] w fun e w' => ∃ c L', e = .returned (.int .i64 c) ∧ Hid (Now w s L' F w' ∧ Flips L c L') := by
  by_cases hn : num L false = 0
  · exact (flip_ok w h.is hL hn).mono fun e w' ⟨he, hi, hf⟩ => ⟨0, _, he, Lib.hid ⟨Mine.next hi hf, .inr ⟨hn, rfl, rfl⟩⟩⟩
  · exact (flip_busy w h.is hL (by omega)).mono fun e w' ⟨he, hf⟩ => ⟨33, L, he, Lib.hid ⟨⟨F, h.quiet hf, Step.none hf⟩, .inl ⟨by omega, rfl, rfl⟩⟩⟩
end Go.Proofs.YtnjaaagiindclaaGreatDoor

/-
  SX: a package's things as one object: what its contracts say of the blocks that they name. No program in sight.
-/
namespace Go.Proofs.YtnjaaagiindclaaGreatDoor
open Go.RowKit Go.Deep
namespace SX

/-- what stands in the blocks that a predicate names, and there alone -/
structure FpOk {α : Type} (M : World → Nat → α → (Nat → Prop) → Prop) : Prop where
  loc : ∀ {w w' : World} {s : Nat} {d : α} {F : Nat → Prop}, M w s d F → (∀ b, F b → w'.heap[b]? = w.heap[b]?) → M w' s d F
  lt : ∀ {w : World} {s : Nat} {d : α} {F : Nat → Prop}, M w s d F → ∀ b, F b → b < w.heap.size
  ext : ∀ {w : World} {s : Nat} {d : α} {F F' : Nat → Prop}, M w s d F → (∀ b, F b ↔ F' b) → M w s d F'
/-- the group is these blocks -/
def FpG {α : Type} (M : World → Nat → α → (Nat → Prop) → Prop) (g : Nat) (d : α) (G : Grp) : Prop :=
  ∃ w0, M w0 g d (fun b => b ∈ G.map Prod.fst) ∧ ∀ x ∈ G, w0.heap[x.1]? = some x.2
variable {α : Type} {M : World → Nat → α → (Nat → Prop) → Prop} {I w w' : World} {R : List Grp} {G : Grp} {g : Nat} {d d' : α}
theorem FpG.at (hM : FpOk M) (h : FpG M g d G) (hp : Hp I w (G :: R)) : M w g d (fun b => b ∈ G.map Prod.fst) := by
  obtain ⟨w0, h1, h2⟩ := h
  refine hM.loc h1 fun b hb => ?_
  obtain ⟨x, hx, rfl⟩ := List.mem_map.1 hb
  rw [h2 x hx]
  exact hp.has x (by simp only [List.flatten_cons, List.mem_append]; exact .inl hx)
open Classical in
noncomputable def pickG (w : World) (F : Nat → Prop) : Grp := (allG w).filter fun x => decide (F x.1)
theorem pickG_mem {F : Nat → Prop} {b : Nat} (h : b < w.heap.size) : b ∈ (pickG w F).map Prod.fst ↔ F b := by
  constructor
  · intro hb
    obtain ⟨x, hx, rfl⟩ := List.mem_map.1 hb
    have := (List.mem_filter.1 hx).2
    simpa using this
  · intro hF
    exact List.mem_map.2 ⟨(b, w.heap[b]'h), List.mem_filter.2 ⟨allG_mem (Array.getElem?_eq_getElem h), by simpa using hF⟩, rfl⟩
theorem pickG_is {F : Nat → Prop} {x : Blk} (h : x ∈ pickG w F) : w.heap[x.1]? = some x.2 := allG_is (List.mem_filter.1 h).1
theorem pickG_nd (w : World) (F : Nat → Prop) : ((pickG w F).map Prod.fst).Nodup := by
  refine List.Nodup.sublist ((List.filter_sublist).map _) ?_
  rw [allG_fst]; exact List.nodup_range
theorem pickG_iff {F : Nat → Prop} (hF : ∀ b, F b → b < w.heap.size) (b : Nat) : F b ↔ b ∈ (pickG w F).map Prod.fst := by
  constructor
  · intro h; exact (pickG_mem (hF b h)).2 h
  · intro h
    obtain ⟨x, hx, rfl⟩ := List.mem_map.1 h
    have := (List.mem_filter.1 hx).2
    simpa using this
/-- they have turned -/
theorem FpG.next (hM : FpOk M) {F' : Nat → Prop} (hp : Hp I w (G :: R)) (hf : Fr (fun b => b ∈ G.map Prod.fst) w w') (hm : M w' g d' F') (hn : ∀ b, F' b → b ∈ G.map Prod.fst ∨ w.heap.size ≤ b) : ∃ G', FpG M g d' G' ∧ Hp I w' (G' :: R) := by
  have hlt := hM.lt hm
  refine ⟨pickG w' F', ⟨w', hM.ext hm (pickG_iff hlt), fun x hx => pickG_is hx⟩, hp.turn hf (pickG_nd _ _) fun x hx => ⟨pickG_is hx, ?_⟩⟩
  have h1 := (List.mem_filter.1 hx).2
  exact hn x.1 (by simpa using h1)
/-- they are new -/
theorem FpG.new (hM : FpOk M) {F' : Nat → Prop} (hp : Hp I w R) (hf : Fr (fun _ => False) w w') (hm : M w' g d' F') (hn : ∀ b, F' b → w.heap.size ≤ b) : ∃ G', FpG M g d' G' ∧ Hp I w' (G' :: R) :=
  FpG.next (G := []) hM (hp.perm (by simp)) (hf.mono fun _ _ h => h.elim) hm (fun b hb => .inr (hn b hb))
/-- a word of an object of the k-th kind: out of its numbers and the other arguments the answer, and what is there then -/
noncomputable def objSpec (k : Nat) (step : List (List Int) → List SV → Option (SV × List (List Int))) : Spec := fun args h n K => match args with
  | a :: us0 => (match a with
    | .p s o => (match o with
      | .c z => if Nat.beq z 0 then (match h.get s with
        | some ob => (match ob with
          | .big m => (match m with
            | .d k' l => if Nat.beq k k' then (match step l us0 with
              | some r => K true r.1 (h.set s (.big (.d k r.2))) n
              | none => .fail 701) else .fail 702
            | _ => .fail 703)
          | _ => .fail 704)
        | none => .fail 705) else .fail 706
      | _ => .fail 707)
    | _ => .fail 708)
  | [] => .fail 709
structure ObjOk (P : Program) (M : World → Nat → List (List Int) → (Nat → Prop) → Prop) (f : FuncId) (step : List (List Int) → List SV → Option (SV × List (List Int))) : Prop where
  enter : ∀ w args, (callFunc f args).run P w = .ok (.enter f args) w
  calls : ∀ l us0 v l', step l us0 = some (v, l') → ∀ (ρ : Ren) (us : List Value), RelL ρ us0 us → ∀ (w : World) (g : Nat) (F : Nat → Prop), M w g l F →
    Calls P f (Value.pointer (some ⟨g, 0, none⟩) :: us).toArray w fun e w' => ∃ u F', e = .returned u ∧ SV.Rel ρ v u ∧ M w' g l' F' ∧ Fr F w w' ∧ ∀ b, F' b → F b ∨ w.heap.size ≤ b
theorem obj_ok {P : Program} {𝔅 : BigRep} {M : World → Nat → List (List Int) → (Nat → Prop) → Prop} {k : Nat} {f : FuncId} {step : List (List Int) → List SV → Option (SV × List (List Int))} (hM : FpOk M) (hB : ∀ l g G, 𝔅 (.d k l) g G ↔ FpG M g l G) (ho : ObjOk P M f step) : SpecEnters P 𝔅 f (objSpec k step) where
  enter := ho.enter
  calls := by
    intro C Q args h n K hC hk ρ w vs hv hH hbd
    unfold objSpec at hk
    split at hk <;> try exact hk.elim
    split at hk <;> try exact hk.elim
    split at hk <;> try exact hk.elim
    split at hk <;> try exact hk.elim
    split at hk <;> try exact hk.elim
    split at hk <;> try exact hk.elim
    split at hk <;> try exact hk.elim
    split at hk <;> try exact hk.elim
    split at hk <;> try exact hk.elim
    rename_i a0 us0 a1 s o z hz oo ob m k' l hget hkk rr r hstep
    have hz' := Nat.eq_of_beq_eq_true hz
    have hk' := Nat.eq_of_beq_eq_true hkk
    subst hz' hk'
    obtain ⟨v1, us, e1, hx, hus⟩ := hv
    simp only [SV.Rel] at hx
    obtain ⟨g, hg, rfl⟩ := hx
    have e2 : vs = (Value.pointer (some ⟨g, 0, none⟩) :: us).toArray := by
      rw [← Array.toList_inj, e1]
      rfl
    subst e2
    obtain ⟨G, R', ⟨g', hg', hG⟩, hp, hback⟩ := hH.focus hget
    have eg := hg.symm.trans hg'
    injection eg with eg
    subst eg
    rw [hC] at hG
    have hG' := (hB _ _ _).1 hG
    refine (ho.calls l us0 r.1 r.2 hstep ρ us hus w g _ (hG'.at hM hp)).mono ?_
    rintro e w' ⟨u, F', rfl, hu, hm, hf, hn⟩
    obtain ⟨G2, hG2, hp2⟩ := FpG.next hM hp hf hm hn
    exact ⟨true, u, r.1, _, n, ρ, rfl, hu, hback w' (.big (.d k r.2)) G2 ⟨g, hg, by rw [hC]; exact (hB _ _ _).2 hG2⟩ hp2, .refl _, hbd, hk⟩
/-- a new one -/
noncomputable def newSpec (k : Nat) (l : List (List Int)) : Spec := fun args h n K => match args with
  | [] => K true (.p n (.c 0)) ((n, .big (.d k l)) :: h) (n + 1)
  | _ :: _ => .fail 711
theorem new_ok {P : Program} {𝔅 : BigRep} {M : World → Nat → List (List Int) → (Nat → Prop) → Prop} {k : Nat} {f : FuncId} {l : List (List Int)} (hM : FpOk M) (hB : ∀ l g G, 𝔅 (.d k l) g G ↔ FpG M g l G) (he : ∀ w args, (callFunc f args).run P w = .ok (.enter f args) w)
    (ho : ∀ w, Calls P f #[] w fun e w' => ∃ g F', e = .returned (.pointer (some ⟨g, 0, none⟩)) ∧ M w' g l F' ∧ Fr (fun _ => False) w w' ∧ ∀ b, F' b → w.heap.size ≤ b) : SpecEnters P 𝔅 f (newSpec k l) where
  enter := he
  calls := by
    intro C Q args h n K hC hk ρ w vs hv hH hbd
    unfold newSpec at hk
    split at hk <;> try exact hk.elim
    have e2 : vs = #[] := by rw [← Array.toList_inj]; exact hv
    subst e2
    refine (ho w).mono ?_
    rintro e w' ⟨g, F', rfl, hm, hf, hn⟩
    obtain ⟨Gs, hr, hp⟩ := hH
    obtain ⟨G2, hG2, hp2⟩ := FpG.new hM hp hf hm hn
    have hle := upd_le (g := g) (hbd n (Nat.le_refl _))
    have hR : Reps C.B (upd ρ n g) ((n, .big (.d k l)) :: h) (G2 :: Gs) := ⟨G2, Gs, rfl, ⟨g, upd_at _ _ _, by rw [hC]; exact (hB _ _ _).2 hG2⟩, hr.mono hle⟩
    refine ⟨true, _, .p n (.c 0), _, _, upd ρ n g, rfl, ?_, ⟨G2 :: Gs, hR, hp2⟩, hle, upd_bd hbd, hk⟩
    simp only [SV.Rel]
    exact ⟨g, upd_at _ _ _, rfl⟩
end SX
end Go.Proofs.YtnjaaagiindclaaGreatDoor

/-
  SX: sets as one object.
-/
namespace Go.Proofs.YtnjaaagiindclaaGreatDoor
open Go.RowKit Go.Deep
theorem RowOf.same {L : List It} {k : Kd} {r : List It} (h : RowOf L k r) : RowOf L k r := h
theorem ownsRow_loc {w w' : World} {B T sz n : Nat} {v : Value} {xs : List Value} (h : w.ownsRow B T sz v n xs) (hs : ∀ g, v.ownBlock = some g → w'.heap[g]? = w.heap[g]?) : w'.ownsRow B T sz v n xs := by
  rcases h with ⟨hl, h | ⟨g, cap, cur, rfl, hg, hb, h⟩⟩
  · exact ⟨hl, .inl h⟩
  · exact ⟨hl, .inr ⟨g, cap, cur, rfl, hg, (hs g rfl).trans hb, h⟩⟩
theorem MapIs.loc {κ : Type} {enc : κ → Value} {w w' : World} {b : Nat} {m : List (κ × Value)} (h : MapIs enc w b m) (e : w'.heap[b]? = w.heap[b]?) : MapIs enc w' b m := by
  obtain ⟨es, c, h1, h2⟩ := h
  exact ⟨es, c, e.trans h1, h2⟩
theorem Mine.loc {w w' : World} {s : Nat} {L : List It} {F : Nat → Prop} (h : Mine w s L F) (e : ∀ b, F b → w'.heap[b]? = w.heap[b]?) : Mine w' s L F := by
  obtain ⟨⟨m1, m2, m3, i1, i2, i3, h1, h2⟩, hlt⟩ := h
  have e0 : ∀ b, sfp s m1 m2 m3 i3 L b → w'.heap[b]? = w.heap[b]? := fun b hb => e b (h2 b hb)
  have c := h1.core
  refine ⟨⟨m1, m2, m3, i1, i2, i3, ⟨⟨(e0 _ (.inl rfl)).trans c.root, c.sets.loc (e0 _ (.inr (.inr (.inr (.inl rfl))))), fun x hx => (e0 _ (.inr (.inr (.inr (.inr (.inl ⟨x, hx, rfl⟩)))))).trans (c.node x hx), c.ndb, c.ndB,
    fun k v hm => ?_, c.all, c.sepS, c.sepR, c.sepK⟩, h1.ids.loc (e0 _ (.inr (.inl rfl))), h1.bases.loc (e0 _ (.inr (.inr (.inl rfl)))), h1.idsL, h1.basesL, h1.ndI, h1.sepM⟩, h2⟩, fun b hb => ?_⟩
  · obtain ⟨r, h3, h4⟩ := c.row k v hm
    exact ⟨r, h3, ownsRow_loc h4 fun g hg => e0 _ (.inr (.inr (.inr (.inr (.inr ⟨k, v, hm, hg⟩)))))⟩
  · have h3 := e b hb
    rw [Array.getElem?_eq_getElem (hlt b hb)] at h3
    exact lt_blk h3
theorem inj_of_nodup_map {α β : Type} {f : α → β} : ∀ {l : List α}, (l.map f).Nodup → ∀ {x y : α}, x ∈ l → y ∈ l → f x = f y → x = y
  | a :: l, h, x, y, hx, hy, e => by
    rw [List.map_cons, List.nodup_cons] at h
    rcases List.mem_cons.1 hx with hx1 | hx1
    · rcases List.mem_cons.1 hy with hy1 | hy1
      · rw [hx1, hy1]
      · exact absurd (by rw [← hx1, e]; exact List.mem_map_of_mem hy1) h.1
    · rcases List.mem_cons.1 hy with hy1 | hy1
      · exact absurd (by rw [← hy1, ← e]; exact List.mem_map_of_mem hx1) h.1
      · exact inj_of_nodup_map h.2 hx1 hy1 e
namespace SX
def b2i (b : Bool) : Int := if b then 1 else 0
theorem b2i_inj {a b : Bool} (h : b2i a = b2i b) : a = b := by cases a <;> cases b <;> first | rfl | cases h
def itRow (x : It) : List Int := [x.id, x.base, x.kd.1, b2i x.kd.2.1, b2i x.kd.2.2.1, b2i x.kd.2.2.2]
/-- the sets hold these spans -/
def SetsM (w : World) (s : Nat) (l : List (List Int)) (F : Nat → Prop) : Prop := ∃ L, l = L.map itRow ∧ Mine w s L F ∧ L.length ≤ 1000000
theorem setsM_ok : FpOk SetsM where
  loc := fun ⟨L, e, h, hl⟩ hF => ⟨L, e, h.loc hF, hl⟩
  lt := fun ⟨_, _, h, _⟩ => h.lt
  ext := fun ⟨L, e, h, hl⟩ hF => by
    have := funext fun b => propext (hF b)
    subst this
    exact ⟨L, e, h, hl⟩
/-- a known number, a known truth -/
def lit : SV → Option Int
  | .l _ n => some n
  | _ => none
def rget (r : List Int) (i : Nat) : Int := r.getD i 0
def bitB : SV → Option Bool
  | .tt => some true
  | .ff => some false
  | _ => none
theorem lit_rel {ρ : Ren} {x : SV} {n : Int} {k : IntKind} (h : lit x = some n) {v : Value} (hr : x.Rel ρ v) : ∃ k, v = .int k n := by
  cases x <;> simp only [lit, reduceCtorEq, Option.some.injEq] at h
  subst h; simp only [SV.Rel] at hr; exact ⟨_, hr⟩
/-- a known number of a kind -/
def litK (k : IntKind) : SV → Option Int
  | .l k' n => if isK k' k then some n else none
  | _ => none
theorem litK_rel {ρ : Ren} {k : IntKind} {x : SV} {n : Int} (h : litK k x = some n) {v : Value} (hr : x.Rel ρ v) : v = .int k n := by
  cases x <;> simp only [litK, reduceCtorEq] at h
  split at h
  next e =>
    injection h with h
    subst h
    simp only [SV.Rel] at hr
    rw [hr, isK_eq e]
  · cases h
theorem bitB_rel {ρ : Ren} {x : SV} {n : Bool} (h : bitB x = some n) {v : Value} (hr : x.Rel ρ v) : v = .bool n := by
  cases x <;> simp only [bitB, reduceCtorEq, Option.some.injEq] at h
  all_goals (subst h; simp only [SV.Rel] at hr; exact hr)
def ltB (a b : Int) : Bool := @decide (a < b) (Int.decLt a b)
theorem ltB_iff {a b : Int} : ltB a b = true ↔ a < b := by simp [ltB]
theorem zB_iff {a b : Int} : zB a b = true ↔ a = b := ⟨zB_eq, fun h => by subst h; cases a <;> exact Nat.beq_refl _⟩
/-- the kind of a row -/
def kdB (c : Int) (a b d : Bool) (r : List Int) : Bool := zB (rget r 2) c && zB (rget r 3) (b2i a) && zB (rget r 4) (b2i b) && zB (rget r 5) (b2i d)
theorem kdB_iff {c : Int} {a b d : Bool} {x : It} : kdB c a b d (itRow x) = true ↔ x.kd = (c, a, b, d) := by
  obtain ⟨b0, id, base, k1, k2, k3, k4⟩ := x
  have e : ∀ i, rget (itRow ⟨b0, id, base, (k1, k2, k3, k4)⟩) i = ([id, base, k1, b2i k2, b2i k3, b2i k4] : List Int).getD i 0 := fun _ => rfl
  simp only [kdB, e, Bool.and_eq_true, zB_iff, Prod.mk.injEq]
  exact ⟨fun ⟨⟨⟨h1, h2⟩, h3⟩, h4⟩ => ⟨h1, b2i_inj h2, b2i_inj h3, b2i_inj h4⟩, fun ⟨h1, h2, h3, h4⟩ => ⟨⟨⟨h1, congrArg b2i h2⟩, congrArg b2i h3⟩, congrArg b2i h4⟩⟩
/-- the first row of the least base -/
def low : List (List Int) → Option (List Int)
  | [] => none
  | r :: l => (match low l with
    | none => some r
    | some q => if ltB (rget q 1) (rget r 1) then some q else some r)
theorem low_none {l : List (List Int)} (h : low l = none) : l = [] := by
  cases l with
  | nil => rfl
  | cons r l =>
    simp only [low] at h
    split at h
    · cases h
    · split at h <;> cases h
theorem low_some : ∀ {l : List (List Int)} {q : List Int}, low l = some q → q ∈ l ∧ ∀ r ∈ l, rget q 1 ≤ rget r 1
  | [], _, h => by cases h
  | r :: l, q, h => by
    simp only [low] at h
    split at h
    next e =>
      have := low_none e
      subst this
      injection h with h
      subst h
      exact ⟨by simp, fun r hr => by rw [List.mem_singleton.1 hr]; exact Int.le_refl _⟩
    next p e =>
      obtain ⟨h1, h2⟩ := low_some e
      split at h
      next hlt =>
        injection h with h
        subst h
        have h3 := ltB_iff.1 hlt
        refine ⟨List.mem_cons_of_mem _ h1, fun x hx => ?_⟩
        rcases List.mem_cons.1 hx with rfl | hx
        · omega
        · exact h2 x hx
      next hlt =>
        injection h with h
        subst h
        have h3 : ¬ rget p 1 < rget r 1 := fun h => hlt (ltB_iff.2 h)
        refine ⟨by simp, fun x hx => ?_⟩
        rcases List.mem_cons.1 hx with rfl | hx
        · exact Int.le_refl _
        · have := h2 x hx; omega
def idB (id : Int) (r : List Int) : Bool := zB (rget r 0) id
/-! the words -/
def stPut (l : List (List Int)) : List SV → Option (SV × List (List Int))
  | a1 :: a2 :: a3 :: a4 :: a5 :: a6 :: [] => (match litK .i64 a1, litK .u64 a2, litK .i64 a3, bitB a4, bitB a5, bitB a6 with
    | some id, some base, some c, some x, some y, some z =>
      if ltB id 1 || ltB c 0 || ltB 67 c then some (.l .i64 1, l)
      else if l.any fun r => idB id r || zB (rget r 1) base then some (.l .i64 34, l)
      else if Nat.blt l.length 1000000 then some (.l .i64 0, l ++ [[id, base, c, b2i x, b2i y, b2i z]]) else none
    | _, _, _, _, _, _ => none)
  | _ => none
def stTake (l : List (List Int)) : List SV → Option (SV × List (List Int))
  | a1 :: a2 :: a3 :: a4 :: [] => (match litK .i64 a1, bitB a2, bitB a3, bitB a4 with
    | some c, some x, some y, some z => (match low (l.filter (kdB c x y z)) with
      | none => some (.tup [.l .i64 0, .ff], l)
      | some r => some (.tup [.l .i64 (rget r 0), .tt], l.filter fun q => !idB (rget r 0) q))
    | _, _, _, _ => none)
  | _ => none
def stRemove (l : List (List Int)) : List SV → Option (SV × List (List Int))
  | a1 :: [] => (match litK .i64 a1 with
    | some id => if l.any (idB id) then some (.l .i64 0, l.filter fun q => !idB id q) else some (.l .i64 35, l)
    | none => none)
  | _ => none
def freshB (r : List Int) : Bool := zB (rget r 5) 0
def stLeast (l : List (List Int)) : List SV → Option (SV × List (List Int))
  | [] => (match low (l.filter freshB) with
    | none => some (.tup [.l .i64 0, .ff], l)
    | some r => some (.tup [.l .i64 (rget r 0), .tt], l))
  | _ => none
def stCount (l : List (List Int)) : List SV → Option (SV × List (List Int))
  | a1 :: [] => (match bitB a1 with
    | some b => some (.l .i64 (Int.ofNat (l.filter fun r => zB (rget r 5) (b2i b)).length), l)
    | none => none)
  | _ => none
def turnR (r : List Int) : List Int := [rget r 0, rget r 1, rget r 2, rget r 3, rget r 4, 0]
def stFlip (l : List (List Int)) : List SV → Option (SV × List (List Int))
  | [] => if l.any freshB then some (.l .i64 33, l) else some (.l .i64 0, l.map turnR)
  | _ => none
end SX
end Go.Proofs.YtnjaaagiindclaaGreatDoor

/-
  SX: sets as one object: each word.
-/
namespace Go.Proofs.YtnjaaagiindclaaGreatDoor
open Go.RowKit Go.Deep
namespace SX
theorem any_row {L : List It} {p : List Int → Bool} : (L.map itRow).any p = true ↔ ∃ x ∈ L, p (itRow x) = true := by
  rw [List.any_eq_true]
  exact ⟨fun ⟨r, hr, hp⟩ => by obtain ⟨x, hx, rfl⟩ := List.mem_map.1 hr; exact ⟨x, hx, hp⟩, fun ⟨x, hx, hp⟩ => ⟨_, List.mem_map_of_mem hx, hp⟩⟩
theorem filter_row {L : List It} {p : List Int → Bool} : (L.map itRow).filter p = (L.filter fun x => p (itRow x)).map itRow := by rw [List.filter_map]; rfl
theorem idB_iff {id : Int} {x : It} : idB id (itRow x) = true ↔ x.id = id := zB_iff
theorem rel_i (ρ : Ren) (k : IntKind) (n : Int) : SV.Rel ρ (.l k n) (.int k n) := by simp only [SV.Rel]
theorem rel_b (ρ : Ren) : ∀ b : Bool, SV.Rel ρ (if b then .tt else .ff) (.bool b)
  | true => by simp only [if_true, SV.Rel]
  | false => by simp only [Bool.false_eq_true, if_false, SV.Rel]
theorem rel_tup2 {ρ : Ren} {x y : SV} {u v : Value} (h1 : x.Rel ρ u) (h2 : y.Rel ρ v) : SV.Rel ρ (.tup [x, y]) (.tuple #[u, v]) := by
  simp only [SV.Rel]; exact ⟨_, rfl, .cons h1 (.cons h2 .nil)⟩
theorem ok_put : ObjOk Tryz.prog SetsM 226 stPut where
  enter := enter_of Tryz.func226 (bodyOf_eq (by kernel_rfl)) (by kernel_rfl)
  calls := by
    intro l us0 v l' h ρ us hr w g F hm
    unfold stPut at h
    split at h <;> try cases h
    split at h <;> try cases h
    rename_i a1 a2 a3 a4 a5 a6 id base c x y z e1 e2 e3 e4 e5 e6
    simp only [RelL] at hr
    obtain ⟨v1, _, rfl, h1, v2, _, rfl, h2, v3, _, rfl, h3, v4, _, rfl, h4, v5, _, rfl, h5, v6, _, rfl, h6, rfl⟩ := hr
    have := litK_rel e1 h1; have := litK_rel e2 h2; have := litK_rel e3 h3; have := bitB_rel e4 h4; have := bitB_rel e5 h5; have := bitB_rel e6 h6
    subst_vars
    obtain ⟨L, rfl, hM, hlen⟩ := hm
    refine (put_m hM id base c x y z hlen).mono ?_
    rintro e w' ⟨cc, L', rfl, hq⟩
    obtain ⟨⟨F', hM', hst⟩, hp⟩ := hq.out
    have key : v = .l .i64 cc ∧ l' = L'.map itRow ∧ L'.length ≤ 1000000 := by
      have b0 : (ltB id 1 || ltB c 0 || ltB 67 c) = true ↔ (id < 1 ∨ c < 0 ∨ 68 ≤ c) := by
        simp only [Bool.or_eq_true, ltB_iff]; omega
      have b1 : ((L.map itRow).any fun r => idB id r || zB (rget r 1) base) = true ↔ ∃ x ∈ L, x.id = id ∨ x.base = base := by
        rw [any_row]
        simp only [Bool.or_eq_true, idB_iff]
        exact ⟨fun ⟨x, hx, hh⟩ => ⟨x, hx, hh.imp (fun e => e) zB_iff.1⟩, fun ⟨x, hx, hh⟩ => ⟨x, hx, hh.imp (fun e => e) (fun e => zB_iff.2 e)⟩⟩
      rcases hp with ⟨p1, rfl, rfl⟩ | ⟨p1, p2, rfl, rfl⟩ | ⟨p1, p2, p3, rfl, b, rfl⟩
      · rw [if_pos (b0.2 p1)] at h
        injection h with h; injection h with ha hb
        exact ⟨ha.symm, hb.symm, hlen⟩
      · rw [if_neg (fun hh => by have := b0.1 hh; omega), if_pos (b1.2 p2)] at h
        injection h with h; injection h with ha hb
        exact ⟨ha.symm, hb.symm, hlen⟩
      · rw [if_neg (fun hh => by have := b0.1 hh; omega), if_neg (fun hh => by obtain ⟨x, hx, hh | hh⟩ := b1.1 hh; exact p2 x hx hh; exact p3 x hx hh)] at h
        split at h
        next hlt =>
          injection h with h; injection h with ha hb
          refine ⟨ha.symm, by rw [← hb, List.map_append]; rfl, ?_⟩
          simp only [List.length_map, Nat.blt_eq] at hlt
          simp only [List.length_append, List.length_singleton]; omega
        · cases h
    obtain ⟨rfl, rfl, hl'⟩ := key
    exact ⟨_, F', rfl, rel_i _ _ _, ⟨L', rfl, hM', hl'⟩, hst.fr, hst.new⟩
theorem ok_take : ObjOk Tryz.prog SetsM 248 stTake where
  enter := enter_of Tryz.func248 (bodyOf_eq (by kernel_rfl)) (by kernel_rfl)
  calls := by
    intro l us0 v l' h ρ us hr w g F hm
    unfold stTake at h
    split at h <;> try cases h
    split at h <;> try cases h
    rename_i a1 a2 a3 a4 c x y z e1 e2 e3 e4
    simp only [RelL] at hr
    obtain ⟨v1, _, rfl, h1, v2, _, rfl, h2, v3, _, rfl, h3, v4, _, rfl, h4, rfl⟩ := hr
    have := litK_rel e1 h1; have := bitB_rel e2 h2; have := bitB_rel e3 h3; have := bitB_rel e4 h4
    subst_vars
    obtain ⟨L, rfl, hM, hlen⟩ := hm
    refine (take_m hM c x y z hlen).mono ?_
    rintro e w' ⟨id, ok, L', rfl, hqq⟩
    obtain ⟨⟨F', hM', hst⟩, hp⟩ := hqq.out
    have key : v = .tup [.l .i64 id, if ok then .tt else .ff] ∧ l' = L'.map itRow ∧ L'.length ≤ 1000000 := by
      rw [filter_row] at h
      rcases hp with ⟨rfl, rfl, hLL, p1⟩ | ⟨rfl, q, hq, p1, rfl, p2, rfl⟩
      · subst hLL
        have e0 : L'.filter (fun q => kdB c x y z (itRow q)) = [] := List.filter_eq_nil_iff.2 fun q hq hk => p1 q hq (kdB_iff.1 hk)
        rw [e0] at h
        have h' : some ((SV.tup [.l .i64 0, .ff] : SV), L'.map itRow) = some (v, l') := h
        injection h' with h; injection h with ha hb
        exact ⟨ha.symm, hb.symm, hlen⟩
      · cases hlow : low ((L.filter fun q => kdB c x y z (itRow q)).map itRow) with
        | none =>
          have e0 := low_none hlow
          have : q ∈ L.filter (fun q => kdB c x y z (itRow q)) := List.mem_filter.2 ⟨hq, kdB_iff.2 p1⟩
          rw [List.map_eq_nil_iff.1 e0] at this
          cases this
        | some r =>
          obtain ⟨m1, m2⟩ := low_some hlow
          obtain ⟨y', hy', rfl⟩ := List.mem_map.1 m1
          obtain ⟨hyL, hyk⟩ := List.mem_filter.1 hy'
          have l1 := m2 _ (List.mem_map_of_mem (List.mem_filter.2 ⟨hq, kdB_iff.2 p1⟩))
          have l1' : y'.base ≤ q.base := l1
          have l2 := p2 y' hyL (kdB_iff.1 hyk)
          have hyq : y' = q := inj_of_nodup_map hM.is.bases hyL hq (by omega)
          subst hyq
          rw [hlow] at h
          have h' : some ((SV.tup [.l .i64 y'.id, .tt] : SV), (L.map itRow).filter fun q => !idB y'.id q) = some (v, l') := h
          injection h' with h; injection h with ha hb
          refine ⟨ha.symm, ?_, Nat.le_trans (List.length_filter_le _ _) hlen⟩
          rw [← hb, filter_row]
          congr 1
          refine List.filter_congr fun u _ => ?_
          rw [Bool.eq_iff_iff]
          simp only [Bool.not_eq_true', decide_eq_true_eq]
          rw [← Bool.not_eq_true, idB_iff]
    obtain ⟨rfl, rfl, hl'⟩ := key
    exact ⟨_, F', rfl, rel_tup2 (rel_i _ _ _) (rel_b _ _), ⟨L', rfl, hM', hl'⟩, hst.fr, hst.new⟩
theorem ok_remove : ObjOk Tryz.prog SetsM 178 stRemove where
  enter := enter_of Tryz.func178 (bodyOf_eq (by kernel_rfl)) (by kernel_rfl)
  calls := by
    intro l us0 v l' h ρ us hr w g F hm
    unfold stRemove at h
    split at h <;> try cases h
    split at h <;> try cases h
    rename_i a1 id e1
    simp only [RelL] at hr
    obtain ⟨v1, _, rfl, h1, rfl⟩ := hr
    have := litK_rel e1 h1
    subst_vars
    obtain ⟨L, rfl, hM, hlen⟩ := hm
    refine (remove_m hM id hlen).mono ?_
    rintro e w' ⟨c, L', rfl, hq⟩
    obtain ⟨⟨F', hM', hst⟩, hp⟩ := hq.out
    have key : v = .l .i64 c ∧ l' = L'.map itRow ∧ L'.length ≤ 1000000 := by
      rcases hp with ⟨rfl, rfl, p1⟩ | ⟨rfl, ⟨x, hx, hxi⟩, rfl⟩
      · rw [if_neg (fun hh => by obtain ⟨x, hx, he⟩ := any_row.1 hh; exact p1 x hx (idB_iff.1 he))] at h
        injection h with h; injection h with ha hb
        exact ⟨ha.symm, hb.symm, hlen⟩
      · rw [if_pos (any_row.2 ⟨x, hx, idB_iff.2 hxi⟩)] at h
        injection h with h; injection h with ha hb
        refine ⟨ha.symm, ?_, Nat.le_trans (List.length_filter_le _ _) hlen⟩
        rw [← hb, filter_row]
        congr 1
        refine List.filter_congr fun u _ => ?_
        rw [Bool.eq_iff_iff]
        simp only [Bool.not_eq_true', decide_eq_true_eq]
        rw [← Bool.not_eq_true, idB_iff]
    obtain ⟨rfl, rfl, hl'⟩ := key
    exact ⟨_, F', rfl, rel_i _ _ _, ⟨L', rfl, hM', hl'⟩, hst.fr, hst.new⟩
theorem freshB_iff {x : It} : freshB (itRow x) = true ↔ x.kd.2.2.2 = false := by
  have : freshB (itRow x) = zB (b2i x.kd.2.2.2) 0 := rfl
  rw [this, zB_iff]
  cases x.kd.2.2.2 <;> decide
theorem ok_least : ObjOk Tryz.prog SetsM 177 stLeast where
  enter := enter_of Tryz.func177 (bodyOf_eq (by kernel_rfl)) (by kernel_rfl)
  calls := by
    intro l us0 v l' h ρ us hr w g F hm
    unfold stLeast at h
    split at h <;> try cases h
    simp only [RelL] at hr
    subst hr
    obtain ⟨L, rfl, hM, hlen⟩ := hm
    refine (least_m hM hlen).mono ?_
    rintro e w' ⟨id, ok, rfl, hqq⟩
    obtain ⟨hf, hp⟩ := hqq.out
    have key : v = .tup [.l .i64 id, if ok then .tt else .ff] ∧ l' = L.map itRow := by
      rw [filter_row] at h
      rcases hp with ⟨rfl, rfl, p1⟩ | ⟨rfl, q, hq, rfl, p1, p2⟩
      · have e0 : L.filter (fun q => freshB (itRow q)) = [] := List.filter_eq_nil_iff.2 fun q hq hk => by
          have := p1 q hq
          rw [freshB_iff.1 hk] at this; cases this
        rw [e0] at h
        have h' : some ((SV.tup [.l .i64 0, .ff] : SV), L.map itRow) = some (v, l') := h
        injection h' with h; injection h with ha hb
        exact ⟨ha.symm, hb.symm⟩
      · cases hlow : low ((L.filter fun q => freshB (itRow q)).map itRow) with
        | none =>
          have e0 := low_none hlow
          have : q ∈ L.filter (fun q => freshB (itRow q)) := List.mem_filter.2 ⟨hq, freshB_iff.2 p1⟩
          rw [List.map_eq_nil_iff.1 e0] at this
          cases this
        | some r =>
          obtain ⟨m1, m2⟩ := low_some hlow
          obtain ⟨y', hy', rfl⟩ := List.mem_map.1 m1
          obtain ⟨hyL, hyk⟩ := List.mem_filter.1 hy'
          have l1 := m2 _ (List.mem_map_of_mem (List.mem_filter.2 ⟨hq, freshB_iff.2 p1⟩))
          have l1' : y'.base ≤ q.base := l1
          have l2 := p2 y' hyL (freshB_iff.1 hyk)
          have hyq : y' = q := inj_of_nodup_map hM.is.bases hyL hq (by omega)
          subst hyq
          rw [hlow] at h
          have h' : some ((SV.tup [.l .i64 y'.id, .tt] : SV), L.map itRow) = some (v, l') := h
          injection h' with h; injection h with ha hb
          exact ⟨ha.symm, hb.symm⟩
    obtain ⟨rfl, rfl⟩ := key
    exact ⟨_, F, rfl, rel_tup2 (rel_i _ _ _) (rel_b _ _), ⟨L, rfl, hM.quiet hf, hlen⟩, hf.mono (fun _ _ h => h.elim), fun _ h => .inl h⟩
theorem ok_count : ObjOk Tryz.prog SetsM 129 stCount where
  enter := enter_of Tryz.func129 (bodyOf_eq (by kernel_rfl)) (by kernel_rfl)
  calls := by
    intro l us0 v l' h ρ us hr w g F hm
    unfold stCount at h
    split at h <;> try cases h
    split at h <;> try cases h
    rename_i a1 b e1
    simp only [RelL] at hr
    obtain ⟨v1, _, rfl, h1, rfl⟩ := hr
    have := bitB_rel e1 h1
    subst_vars
    obtain ⟨L, rfl, hM, hlen⟩ := hm
    refine (count_m hM b hlen).mono ?_
    rintro e w' ⟨rfl, hf⟩
    have hf := hf.out
    have e0 : ((L.map itRow).filter fun r => zB (rget r 5) (b2i b)).length = num L b := by
      rw [filter_row, List.length_map]
      unfold num
      congr 1
      refine List.filter_congr fun u _ => ?_
      rw [Bool.eq_iff_iff, beq_iff_eq]
      exact ⟨fun hh => b2i_inj (zB_iff.1 hh), fun hh => zB_iff.2 (congrArg b2i hh)⟩
    rw [e0]
    exact ⟨_, F, rfl, rel_i _ _ _, ⟨L, rfl, hM.quiet hf, hlen⟩, hf.mono (fun _ _ h => h.elim), fun _ h => .inl h⟩
theorem turnR_row (x : It) : turnR (itRow x) = itRow x.turned := rfl
theorem ok_flip : ObjOk Tryz.prog SetsM 184 stFlip where
  enter := enter_of Tryz.func184 (bodyOf_eq (by kernel_rfl)) (by kernel_rfl)
  calls := by
    intro l us0 v l' h ρ us hr w g F hm
    unfold stFlip at h
    split at h <;> try cases h
    simp only [RelL] at hr
    subst hr
    obtain ⟨L, rfl, hM, hlen⟩ := hm
    refine (flip_m hM hlen).mono ?_
    rintro e w' ⟨c, L', rfl, hq⟩
    obtain ⟨⟨F', hM', hst⟩, hp⟩ := hq.out
    have b0 : (L.map itRow).any freshB = true ↔ 0 < num L false := by
      rw [any_row]
      unfold num
      rw [List.length_pos_iff_exists_mem]
      simp only [List.mem_filter, beq_iff_eq, freshB_iff]
    have key : v = .l .i64 c ∧ l' = L'.map itRow ∧ L'.length ≤ 1000000 := by
      rcases hp with ⟨p1, rfl, rfl⟩ | ⟨p1, rfl, rfl⟩
      · rw [if_pos (b0.2 p1)] at h
        injection h with h; injection h with ha hb
        exact ⟨ha.symm, hb.symm, hlen⟩
      · rw [if_neg (fun hh => by have := b0.1 hh; omega)] at h
        injection h with h; injection h with ha hb
        refine ⟨ha.symm, ?_, by rw [List.length_map]; exact hlen⟩
        rw [← hb, List.map_map, List.map_map]
        exact List.map_congr_left fun x _ => turnR_row x
    obtain ⟨rfl, rfl, hl'⟩ := key
    exact ⟨_, F', rfl, rel_i _ _ _, ⟨L', rfl, hM', hl'⟩, hst.fr, hst.new⟩
/-- the contracts of sets that stand as one object of kind 1 -/
noncomputable def wtS : List (FuncId × Spec) := [(44, newSpec 1 []), (226, objSpec 1 stPut), (248, objSpec 1 stTake), (178, objSpec 1 stRemove),
  (177, objSpec 1 stLeast), (129, objSpec 1 stCount), (184, objSpec 1 stFlip)]
theorem wtS_ok {𝔅 : BigRep} (hB : ∀ l g G, 𝔅 (.d 1 l) g G ↔ FpG SetsM g l G) : ∀ x ∈ wtS, SpecOk Tryz.prog 𝔅 x.1 x.2 := by
  intro x hx
  simp only [wtS, List.mem_cons, List.not_mem_nil, or_false] at hx
  rcases hx with rfl | rfl | rfl | rfl | rfl | rfl | rfl
  · exact .inl (new_ok setsM_ok hB (enter_of Tryz.func44 (bodyOf_eq (by kernel_rfl)) (by kernel_rfl)) fun w => (new_m w).mono fun e w' ⟨s, he, hq⟩ => by
      obtain ⟨F', hM, hst⟩ := hq.out
      exact ⟨s, F', he, ⟨[], rfl, hM, Nat.zero_le _⟩, hst.fr, fun b hb => (hst.new b hb).elim False.elim id⟩)
  · exact .inl (obj_ok setsM_ok hB ok_put)
  · exact .inl (obj_ok setsM_ok hB ok_take)
  · exact .inl (obj_ok setsM_ok hB ok_remove)
  · exact .inl (obj_ok setsM_ok hB ok_least)
  · exact .inl (obj_ok setsM_ok hB ok_count)
  · exact .inl (obj_ok setsM_ok hB ok_flip)
end SX
end Go.Proofs.YtnjaaagiindclaaGreatDoor

/-
  (*arena.Map).leaf where no chunk has a leaf, and none is wide: a new leaf, all nought. No condition.
-/
namespace Go.Proofs.YtnjaaagiindclaaGreatDoor
open Go.RowKit Go.Deep
namespace Lf
set_option maxHeartbeats 1000000 in
theorem whole_nil {b : Nat} (w : World) (h : w.cell? ⟨b, 2, none⟩ = some (.slice none 0 0)) (k : Int) :
    Calls Tryz.prog 135 #[.pointer (some ⟨b, 0, none⟩), .int .u64 k] w fun e w' => e = .returned (.int .i64 0) ∧ w = w' := by
  go_enter Tryz.func135, Tryz.ntmps135
  go_wp2
  refine wp_loop_rounds 1 ?_
  rw [rounds_succ]
  go_wp2
  go_ret
  exact ⟨rfl, rfl⟩
theorem set_same {c : Array Value} {i : Nat} {v : Value} (h : c[i]? = some v) : c.setIfInBounds i v = c := by
  obtain ⟨hi, he⟩ := Array.getElem?_eq_some_iff.1 h
  apply Array.ext
  · simp
  · intro j h1 h2
    rw [Array.getElem_setIfInBounds]
    split
    next hj => subst hj; exact he.symm
    next => rfl
theorem fr_same {b : Nat} {w w' : World} (h : Fr (fun x => x = b) w w') (e : w'.heap[b]? = w.heap[b]?) : Fr (fun _ => False) w w' :=
  ⟨h.os, h.tape, h.output, h.size, fun x hx _ => if hb : x = b then by rw [hb]; exact e else h.same x hx hb⟩
set_option maxRecDepth 100000 in
set_option maxHeartbeats 2000000 in
theorem cut_nil {b mm : Nat} {c : Array Value} (w : World) (hb : w.heap[b]? = some (.cells c 246 (0, 0))) (h2 : c[2]? = some (.slice none 0 0)) (h3 : c[3]? = some (.map (some mm))) (hm : MapIs benc w mm []) (k : Nat) (hk : k ≤ 1000000000000) :
    Calls Tryz.prog 229 #[.pointer (some ⟨b, 0, none⟩), .int .u64 k, .int .u64 ((k : Int) + 1)] w fun e w' => e = .returned (.tuple #[]) ∧ Fr (fun _ => False) w w' := by
  have c2 : w.cell? ⟨b, 2, none⟩ = some (.slice none 0 0) := (cell_blk hb 2).trans h2
  have f2 : w.frozen? ⟨b, 2, none⟩ = false := free_blk hb 2
  have c3 : w.cell? ⟨b, 3, none⟩ = some (.map (some mm)) := (cell_blk hb 3).trans h3
  have fS : Fr (fun x => x = b) w (w.setCell ⟨b, 2, none⟩ (.slice none 0 0)) := (Fr.refl _ w).setCell _ _ (.inl rfl)
  have bS : (w.setCell ⟨b, 2, none⟩ (.slice none 0 0)).heap[b]? = w.heap[b]? := by
    have h9 := heap_setCell_at (v := .slice none 0 0) (i := 2) hb
    rw [set_same h2] at h9
    rw [h9, hb]
  have gS := fr_same fS bS
  have hmS := hm.frk gS (fun x => x)
  have cS3 : (w.setCell ⟨b, 2, none⟩ (.slice none 0 0)).cell? ⟨b, 3, none⟩ = some (.map (some mm)) := cell_through gS c3 (fun x => x)
  obtain ⟨W, hW⟩ : ∃ W, W = w.setCell ⟨b, 2, none⟩ (.slice none 0 0) := ⟨_, rfl⟩
  have HM := Lib.hid hm
  have hln := run_map_len (P := Tryz.prog) Tryz.underlying244 hmS 3
  go_enter Tryz.func229, Tryz.ntmps229
  go_wp2
  refine wp_loop_rounds 1 ?_
  rw [rounds_succ]
  go_wp2_with (first
    | (refine wpList_iter_new (by rfl) Tryz.underlying244 _ (by rfl) hmS (by rfl) ?_; intro oo hit; go_simp))
  have hmlt := hmS.lt
  simp only [size_setCell] at hit hmlt
  rcases run_iter_next (P := Tryz.prog) hit (by omega) 0 with ⟨_, hr⟩ | ⟨p, hp, _⟩
  · refine wp_loop_rounds 1 ?_
    rw [rounds_succ]
    clear hit
    go_wp2_with (refine wpList_next_run (by rfl) _ (by rfl) (by rfl) hr ?_; clear hr)
    (try simp only [Exit.inBlock, Exit.then])
    refine bodyPost_ret (results_none rfl _ _ _) rfl ?_
    exact ⟨rfl, gS.alloc _⟩
  · cases hp
theorem zero_leaf : ∀ w, (zeroValue 242).run Tryz.prog w = .ok (.pointer none) w := Tryz.zeroValue242
set_option maxRecDepth 100000 in
set_option maxHeartbeats 4000000 in
theorem leaf_new {b mm : Nat} {c : Array Value} (w : World) (hb : w.heap[b]? = some (.cells c 246 (0, 0))) (h2 : c[2]? = some (.slice none 0 0)) (h3 : c[3]? = some (.map (some mm))) (hm : MapIs benc w mm []) (k : Nat) (hk : k ≤ 1000000000000) :
    Calls Tryz.prog 231 #[.pointer (some ⟨b, 0, none⟩), .int .u64 k] w fun e w' => ∃ g, e = .returned (.pointer (some ⟨g, 0, none⟩)) ∧ w.heap.size ≤ g ∧ Fr (fun x => x = mm) w w' ∧ w'.heap[g]? = some (.cells (Array.replicate 512 (.int .i64 0)) 356 (0, 0)) ∧ MapIs benc w' mm [((k : Int), .pointer (some ⟨g, 0, none⟩))] := by
  have c2 : w.cell? ⟨b, 2, none⟩ = some (.slice none 0 0) := (cell_blk hb 2).trans h2
  have c3 : w.cell? ⟨b, 3, none⟩ = some (.map (some mm)) := (cell_blk hb 3).trans h3
  have hcut := Lib.hid (cut_nil w hb h2 h3 hm k hk)
  have hwh := Lib.hid (whole_nil w c2 (k : Int))
  have HM := Lib.hid hm
  have HB := Lib.hid hb
  go_enter Tryz.func231, Tryz.ntmps231
  go_wp2_with (first
    | (refine wpList_map_lookup (by rfl) keyLaw_b Tryz.underlying244 _ _ false (by rfl) HM.out (k : Int) (.pointer none) zero_leaf (by rfl) (by rfl) ?_; simp only [mapGet, posOf, Bool.false_eq_true, if_false, Option.getD])
    | (go_at_call 135; refine hwh.out.mono ?_; rintro e w1 ⟨rfl, rfl⟩)
    | (go_at_call 229; refine hcut.out.mono ?_; rintro e w1 ⟨rfl, hf1⟩; replace hf1 := Lib.hid hf1))
  have z356 : Tryz.zeroCells356 = Array.replicate 512 (.int .i64 0) := by rfl
  rw [z356]
  have hsz1 := hf1.out.size
  go_loopg [7, 25] 512 (fun kk x i wr => ∃ j : Nat, i = .int .i64 j ∧ Hid (j + kk = 512 ∧ Fr (fun _ => False) (w1.alloc (.cells (Array.replicate 512 (.int .i64 0)) 356)) wr ∧ wr.heap[w1.heap.size]? = some (.cells (Array.replicate 512 (.int .i64 0)) 356 (0, 0))))
  case atStart => exact ⟨0, rfl, Lib.hid ⟨by omega, Fr.refl _ _, by rw [heap_alloc, if_pos rfl]⟩⟩
  case round =>
    obtain ⟨j, rfl, HJ⟩ := hrel
    have hF : Fr (fun _ => False) w wr := (hf1.out.trans ((Fr.refl (fun _ => False) w1).alloc _) (fun _ _ x => x)).trans HJ.out.2.1 (fun _ _ x => x)
    have HF := Lib.hid hF
    have d3 := cell_through hF c3 (fun x => x)
    have hmr := Lib.hid (HM.out.frk hF (fun x => x))
    clear hF
    by_cases hj : j < 512
    · have cj : wr.cell? ⟨w1.heap.size, j, none⟩ = some (.int .i64 0) := (cell_blk HJ.out.2.2 j).trans (by rw [Array.getElem?_replicate, if_pos hj])
      have fj : wr.frozen? ⟨w1.heap.size, j, none⟩ = false := free_blk HJ.out.2.2 j
      have fS : Fr (fun x => x = w1.heap.size) wr (wr.setCell ⟨w1.heap.size, j, none⟩ (.int .i64 0)) := (Fr.refl _ wr).setCell _ _ (.inl rfl)
      have bS : (wr.setCell ⟨w1.heap.size, j, none⟩ (.int .i64 0)).heap[w1.heap.size]? = some (.cells (Array.replicate 512 (.int .i64 0)) 356 (0, 0)) := by
        have h9 := heap_setCell_at (v := .int .i64 0) (i := j) HJ.out.2.2
        rw [set_same (by rw [Array.getElem?_replicate, if_pos hj])] at h9
        exact h9
      have GS := Lib.hid (And.intro (fr_same fS (bS.trans HJ.out.2.2.symm)) bS)
      clear fS bS d3
      go_wp2_with fail
      go_roundg (512 - (j + 1))
      case measure => have := HJ.out.1; omega
      case rel => exact ⟨j + 1, by go_num, Lib.hid ⟨by omega, HJ.out.2.1.trans GS.out.1 (fun _ _ x => x), GS.out.2⟩⟩
    · have hj2 : j = 512 := by have := HJ.out.1; omega
      subst hj2
      go_wp2_with (refine wpList_map_set (by rfl) keyLaw_b Tryz.underlying244 _ _ _ (by rfl) hmr.out (k : Int) (.pointer (some ⟨w1.heap.size, 0, none⟩)) (by rfl) (by rfl) (by rfl) ?_; intro w2 hm2 hf2)
      go_ret
      have hmm := hmr.out.lt
      refine ⟨w1.heap.size, rfl, hsz1, (HF.out.mono (fun _ _ x => x.elim)).trans hf2 (fun _ _ x => x), hf2.at HJ.out.2.2 (fun e => ?_), hm2⟩
      obtain ⟨es, cl, h9, _⟩ := hmr.out
      rw [← e, HJ.out.2.2] at h9
      cases h9
end Lf
end Go.Proofs.YtnjaaagiindclaaGreatDoor

/-
  Sets of numbers as rows of stretches: what the memory holds; at, Has, Count.
-/
namespace Go.Proofs.YtnjaaagiindclaaGreatDoor
open Go.RowKit Go.Deep
namespace One

abbrev P2 := Nat × Nat
def enc (l : List P2) : List Value := l.flatMap fun e => [.int .u64 (e.1 : Int), .int .u64 (e.2 : Int)]
theorem enc_len (l : List P2) : (enc l).length = l.length * 2 := by
  induction l with
  | nil => rfl
  | cons e l ih => simp only [enc, List.flatMap_cons, List.length_append, List.length_cons, List.length_nil] at ih ⊢; omega
theorem enc_append (l m : List P2) : enc (l ++ m) = enc l ++ enc m := by simp [enc]
theorem enc_get : ∀ (l : List P2) (i : Nat) (e : P2), l[i]? = some e → (enc l)[i * 2]? = some (.int .u64 (e.1 : Int)) ∧ (enc l)[i * 2 + 1]? = some (.int .u64 (e.2 : Int))
  | [], i, e, h => by simp at h
  | x :: l, 0, e, h => by simp at h; subst h; exact ⟨rfl, rfl⟩
  | x :: l, i + 1, e, h => by
    have := enc_get l i e (by simpa using h)
    have e1 : (i + 1) * 2 = i * 2 + 1 + 1 := by omega
    rw [e1]
    simpa [enc] using this
theorem enc_take (l : List P2) (k : Nat) : (enc l).take (k * 2) = enc (l.take k) := by
  induction l generalizing k with
  | nil => simp [enc]
  | cons e l ih =>
    cases k with
    | zero => simp [enc]
    | succ k =>
      have e1 : (k + 1) * 2 = k * 2 + 1 + 1 := by omega
      have := ih k
      simp only [enc, List.flatMap_cons, List.take_succ_cons, List.cons_append, List.nil_append, e1] at this ⊢
      rw [this]
theorem enc_drop (l : List P2) (k : Nat) : (enc l).drop (k * 2) = enc (l.drop k) := by
  induction l generalizing k with
  | nil => simp [enc]
  | cons e l ih =>
    cases k with
    | zero => simp [enc]
    | succ k =>
      have e1 : (k + 1) * 2 = k * 2 + 1 + 1 := by omega
      have := ih k
      simp only [enc, List.flatMap_cons, List.drop_succ_cons, List.cons_append, List.nil_append, e1] at this ⊢
      rw [this]
/-- rising, with a gap between each two -/
structure Can (l : List P2) : Prop where
  ok : ∀ e ∈ l, e.1 < e.2 ∧ e.2 ≤ 18446744073709551615
  ord : l.Pairwise fun a b => a.2 < b.1
/-- the set in block b, from cell o on -/
structure SetAt (w : World) (b o : Nat) (v : Value) (s : Nat) (l : List P2) : Prop where
  cell : w.cell? ⟨b, o, none⟩ = some v
  sum : w.cell? ⟨b, o + 1, none⟩ = some (.int .u64 (s : Int))
  rd : Rd w 2 v l.length (enc l)
  can : Can l
  len : l.length ≤ 1000000
theorem SetAt.quiet {w w' : World} {b o : Nat} {v : Value} {s : Nat} {l : List P2} (h : SetAt w b o v s l) (hf : Fr (fun _ => False) w w') : SetAt w' b o v s l :=
  ⟨cell_through hf h.cell (fun x => x), cell_through hf h.sum (fun x => x), h.rd.fr hf (fun _ _ x => x), h.can, h.len⟩
theorem SetAt.piece {w : World} {b o : Nat} {v : Value} {s : Nat} {l : List P2} (h : SetAt w b o v s l) : ∃ al cl, v = .slice al l.length cl ∧ l.length ≤ cl ∧
    ∀ i e, l[i]? = some e → ∃ pb po, al = some ⟨pb, po, none⟩ ∧ w.cell? ⟨pb, po + i * 2, none⟩ = some (.int .u64 (e.1 : Int)) ∧ w.cell? ⟨pb, po + i * 2 + 1, none⟩ = some (.int .u64 (e.2 : Int)) := by
  obtain ⟨a, c, hv, hc, hl, hn, hx⟩ := id h.rd
  have hrd := h.rd
  rw [hv] at hrd
  refine ⟨a, c, hv, hc, fun i e hi => ?_⟩
  obtain ⟨pb, po, rfl, hcc⟩ := rd_rows (f := fun e : P2 => [.int .u64 (e.1 : Int), .int .u64 (e.2 : Int)]) (k := 2) (fun _ => rfl) (by decide) hrd hi
  exact ⟨pb, po, rfl, hcc 0 _ rfl, hcc 1 _ rfl⟩
/-- does the i-th end behind x? -/
def behind (l : List P2) (x i : Nat) : Bool := match l[i]? with
  | some e => decide (x < e.2)
  | none => true
theorem behind_mono {l : List P2} (h : Can l) (x i j : Nat) (hij : i ≤ j) (hj : j < l.length) (hi : behind l x i = true) : behind l x j = true := by
  by_cases e : i = j
  · subst e; exact hi
  · have hlt : i < l.length := by omega
    have h1 := List.pairwise_iff_getElem.1 h.ord i j hlt hj (by omega)
    have h2 := h.ok l[j] (List.getElem_mem hj)
    unfold behind at hi ⊢
    rw [List.getElem?_eq_getElem hlt] at hi
    rw [List.getElem?_eq_getElem hj]
    simp only [decide_eq_true_eq] at hi ⊢
    omega
set_option maxHeartbeats 1000000 in
theorem at_one {b o : Nat} {v : Value} {s : Nat} {l : List P2} (p q i x : Nat) (e : P2) (w : World) (hp : w.cell? ⟨p, 0, none⟩ = some (.pointer (some ⟨b, o, none⟩))) (hq : w.cell? ⟨q, 0, none⟩ = some (.int .u64 x))
    (h : SetAt w b o v s l) (hi : l[i]? = some e) :
    Calls Tryz.prog 246 #[.int .i64 i, .pointer (some ⟨p, 0, none⟩), .pointer (some ⟨q, 0, none⟩)] w fun en w' => en = .returned (.bool (behind l x i)) ∧ ∃ m, w' = w.drewN m := by
  obtain ⟨al, cl, rfl, _, hx⟩ := h.piece
  obtain ⟨pb, po, rfl, h0, h1⟩ := hx i e hi
  have hn := h.len
  have hc := h.cell
  have hlt : i < l.length := (List.getElem?_eq_some_iff.1 hi).1
  have E : behind l x i = decide (x < e.2) := by unfold behind; rw [hi]
  rw [E]
  clear E hx hi h h0
  go_enter Tryz.func246, Tryz.ntmps246
  go_wp2_with fail
  go_quiet (fail)
  go_wp2
  go_ret
  exact ⟨rfl, _, rfl⟩
/-- where x would stand -/
def AtIs (l : List P2) (x r : Nat) : Prop := r ≤ l.length ∧ (∀ i e, i < r → l[i]? = some e → e.2 ≤ x) ∧ (∀ i e, r ≤ i → l[i]? = some e → x < e.2)
set_option maxHeartbeats 1000000 in
theorem at_any {b o : Nat} {v : Value} {s : Nat} {l : List P2} (w : World) (h : SetAt w b o v s l) (x : Nat) :
    Calls Tryz.prog 206 #[.pointer (some ⟨b, o, none⟩), .int .u64 x] w fun e w' => ∃ r : Nat, e = .returned (.int .i64 r) ∧ Hid (AtIs l x r) ∧ Hid (Fr (fun _ => False) w w') := by
  have hn := h.len
  have fr : Fr (fun _ => False) w ((w.alloc (.cells #[.pointer (some ⟨b, o, none⟩)] 305)).alloc (.cells #[.int .u64 x] 22)) := ((Fr.refl _ w).alloc _).alloc _
  have hs : Calls Tryz.prog 147 #[.int .i64 l.length, .func (.func 246) #[] #[.pointer (some ⟨w.heap.size, 0, none⟩), .pointer (some ⟨w.heap.size + 1, 0, none⟩)]]
      ((w.alloc (.cells #[.pointer (some ⟨b, o, none⟩)] 305)).alloc (.cells #[.int .u64 x] 22)) (fun e w' => ∃ r : Nat, e = .returned (.int .i64 r) ∧ Hid (AtIs l x r) ∧ Hid (Fr (fun _ => False) w w')) := by
    refine (search_any (p := behind l x) _ (fun args w => by simp [callFunc, Tryz.func246, Tryz.f246]) (by omega) (fun k i hi => ?_) (behind_mono h.can x)).mono ?_
    · obtain ⟨e, he⟩ : ∃ e, l[i]? = some e := ⟨_, List.getElem?_eq_getElem hi⟩
      have := at_one w.heap.size (w.heap.size + 1) i x e (((w.alloc (.cells #[.pointer (some ⟨b, o, none⟩)] 305)).alloc (.cells #[.int .u64 x] 22)).drewN k)
        (cell_blk (w := ((w.alloc (.cells #[.pointer (some ⟨b, o, none⟩)] 305)).alloc (.cells #[.int .u64 x] 22))) (c := #[.pointer (some ⟨b, o, none⟩)]) (by rw [heap_alloc, if_neg (by simp), heap_alloc, if_pos rfl]) 0)
        (cell_blk (w := ((w.alloc (.cells #[.pointer (some ⟨b, o, none⟩)] 305)).alloc (.cells #[.int .u64 x] 22))) (c := #[.int .u64 x]) (by rw [heap_alloc, if_pos (by simp)]) 0) (h.quiet (fr.drewN k)) he
      refine this.mono fun e w' ⟨he, q, hq⟩ => ⟨he, k + q, by rw [hq, World.drewN_drewN]⟩
    · rintro e w' ⟨r, q, rfl, rfl, h1, h2, h3⟩
      refine ⟨r, rfl, Lib.hid ⟨h1, fun i x hi hx => ?_, fun i x hi hx => ?_⟩, Lib.hid (fr.drewN q)⟩
      · have := h2 i hi; unfold behind at this; rw [hx] at this; simpa using this
      · have := h3 i hi (List.getElem?_eq_some_iff.1 hx).1; unfold behind at this; rw [hx] at this; simpa using this
  obtain ⟨al, cl, rfl, hle, _⟩ := h.piece
  have hr := cell_through fr h.cell (fun x => x)
  have HS := Lib.hid hs
  clear hs fr h
  go_enter Tryz.func206, Tryz.ntmps206
  go_wp2_with (first | (go_at_call 147; refine HS.out.mono ?_; rintro e w' ⟨r, rfl, h1, h2⟩))
  go_ret
  exact ⟨r, rfl, h1, h2⟩
end One
end Go.Proofs.YtnjaaagiindclaaGreatDoor

/-
  Sets of numbers: Count, Has.
-/
namespace Go.Proofs.YtnjaaagiindclaaGreatDoor
open Go.RowKit Go.Deep
def Held' (p : Prop) : Prop := p
theorem hold' {p : Prop} (h : Held' p) : p := h
namespace One
/-- how many numbers of a row lie from one on, ahead of another one -/
def cntR (fr tt : Nat) : List P2 → Nat
  | [] => 0
  | e :: l => if e.1 < tt then (min e.2 tt - max e.1 fr) + cntR fr tt l else 0
theorem drop_at {l : List P2} {q : Nat} {e : P2} (h : l[q]? = some e) : l.drop q = e :: l.drop (q + 1) := by
  obtain ⟨hl, he⟩ := List.getElem?_eq_some_iff.1 h
  rw [List.drop_eq_getElem_cons hl, he]
theorem cntR_le (fr tt : Nat) : ∀ {l : List P2}, Can l → cntR fr tt l ≤ tt - (match l with | [] => tt | e :: _ => e.1)
  | [], _ => by simp [cntR]
  | e :: l, h => by
    have h2 : Can l := ⟨fun x hx => h.ok x (List.mem_cons_of_mem _ hx), (List.pairwise_cons.1 h.ord).2⟩
    have ih := cntR_le fr tt h2
    have h0 := h.ok e (by simp)
    simp only [cntR]
    split
    next hlt =>
      cases l with
      | nil => simp only [cntR] at ih ⊢; omega
      | cons x l =>
        have h3 := (List.pairwise_cons.1 h.ord).1 x (by simp)
        simp only at ih ⊢
        have h4 : cntR fr tt (x :: l) = 0 ∨ x.1 < tt := by
          by_cases hx : x.1 < tt
          · exact .inr hx
          · left; simp only [cntR, if_neg hx]
        rcases h4 with h4 | h4 <;> omega
    next => omega
theorem Can.drop {l : List P2} (h : Can l) (k : Nat) : Can (l.drop k) := ⟨fun e he => h.ok e (List.mem_of_mem_drop he), h.ord.sublist (List.drop_sublist _ _)⟩
theorem Can.take {l : List P2} (h : Can l) (k : Nat) : Can (l.take k) := ⟨fun e he => h.ok e (List.mem_of_mem_take he), h.ord.sublist (List.take_sublist _ _)⟩
theorem cntR_le' {l : List P2} (h : Can l) (fr tt : Nat) : cntR fr tt l ≤ tt := Nat.le_trans (cntR_le fr tt h) (Nat.sub_le _ _)
set_option maxRecDepth 100000 in
set_option maxHeartbeats 2000000 in
theorem count_any {b o : Nat} {v : Value} {s : Nat} {l : List P2} (w : World) (h : SetAt w b o v s l) (fr tt : Nat) (hft : fr < tt) (htt : tt ≤ 18446744073709551615) :
    Calls Tryz.prog 190 #[.pointer (some ⟨b, o, none⟩), .int .u64 fr, .int .u64 tt] w fun e w' => ∃ r : Nat, e = .returned (.int .u64 (cntR fr tt (l.drop r) : Nat)) ∧ Hid (AtIs l fr r) ∧ Hid (Fr (fun _ => False) w w') := by
  have hn := h.len
  have hat := Lib.hid (at_any w h fr)
  have H := Lib.hid h
  clear h
  go_enter Tryz.func190, Tryz.ntmps190
  go_wp2_with (first | (go_at_call 206; refine hat.out.mono ?_; rintro e w1 ⟨r, rfl, hr2, hf1⟩))
  clear hat
  go_loopg [7, 8] l.length (fun kk n i wr => ∃ (q c : Nat), i = .int .i64 q ∧ n = .int .u64 (c : Nat) ∧ Hid (Fr (fun _ => False) w wr ∧ r ≤ q ∧ q ≤ l.length ∧ c + cntR fr tt (l.drop q) = cntR fr tt (l.drop r) ∧ l.length - q ≤ kk))
  case atStart =>
    exact ⟨r, 0, rfl, rfl, Lib.hid ⟨hf1.out, Nat.le_refl _, hr2.out.1, by omega, by omega⟩⟩
  case round =>
    obtain ⟨q, c, rfl, rfl, HG⟩ := hrel
    obtain ⟨al, cl, hv, hle, hpc⟩ := (H.out.quiet HG.out.1).piece
    have hcell := (H.out.quiet HG.out.1).cell
    rw [hv] at hcell
    have hcb := cntR_le' (H.out.can.drop r) fr tt
    by_cases hlt : q < l.length
    · obtain ⟨e, hei⟩ : ∃ e, l[q]? = some e := ⟨_, List.getElem?_eq_getElem hlt⟩
      obtain ⟨pb, po, rfl, c0, c1⟩ := hpc _ _ hei
      have hbe := hr2.out.2.2 q e HG.out.2.1 hei
      have hok := H.out.can.ok e (List.mem_of_getElem? hei)
      have hsum := HG.out.2.2.2.1
      rw [drop_at hei] at hsum
      have hd1 := Lib.hid (drop_at hei)
      obtain ⟨ea, eb⟩ := e
      simp only at c0 c1 hbe hok
      clear hpc hle hv hei
      by_cases hin : ea < tt
      · simp only [cntR, if_pos hin] at hsum
        obtain ⟨lo, hlo⟩ : ∃ lo, (ea < fr ∧ lo = fr) ∨ (¬ ea < fr ∧ lo = ea) := by
          by_cases h : ea < fr
          · exact ⟨fr, .inl ⟨h, rfl⟩⟩
          · exact ⟨ea, .inr ⟨h, rfl⟩⟩
        obtain ⟨hi, hhi⟩ : ∃ hi, (tt < eb ∧ hi = tt) ∨ (¬ tt < eb ∧ hi = eb) := by
          by_cases h : tt < eb
          · exact ⟨tt, .inl ⟨h, rfl⟩⟩
          · exact ⟨eb, .inr ⟨h, rfl⟩⟩
        have z5 : lo ≤ hi := by omega
        have hm : min eb tt - max ea fr = hi - lo := by omega
        rw [hm] at hsum
        have hc2 : c + (hi - lo) ≤ tt := by omega
        obtain ⟨d, hd⟩ : ∃ d, d = hi - lo := ⟨_, rfl⟩
        rw [← hd] at hsum
        have hz : ((c + d : Nat) : Int) = (c : Int) + (((hi : Nat) : Int) - ((lo : Nat) : Int)) := by omega
        have HZ := Lib.hid hz
        have hsum := Lib.hid hsum
        have hok := Lib.hid hok
        clear hm hcb hz hd
        rcases hlo with ⟨ha1, rfl⟩ | ⟨ha1, rfl⟩ <;> rcases hhi with ⟨hb1, rfl⟩ | ⟨hb1, rfl⟩
        all_goals (
          go_wp2_with fail
          go_quiet (fail)
          go_wp2
          go_roundg (l.length - (q + 1))
          case measure => have := HG.out.2.2.2.2; omega
          case rel => exact ⟨q + 1, c + d, by go_num, by rw [HZ.out], Lib.hid ⟨HG.out.1.drewN _, by have := HG.out.2.1; omega, by omega, by have := hsum.out; omega, Nat.le_refl _⟩⟩)
      · have hs : c = cntR fr tt (l.drop r) := by
          rw [← hsum]
          simp only [cntR, if_neg hin]
          omega
        have HS := Lib.hid hs
        clear hs hsum hcb hok
        go_wp2_with fail
        go_ret
        exact ⟨r, by rw [← HS.out]; rfl, hr2, Lib.hid HG.out.1⟩
    · have hs : c = cntR fr tt (l.drop r) := by
        have h1 := HG.out.2.2.2.1
        rw [List.drop_eq_nil_iff.2 (by omega)] at h1
        rw [← h1]; rfl
      have HS := Lib.hid hs
      clear hs hpc hle hcb hv
      go_wp2_with fail
      go_ret
      exact ⟨r, by rw [← HS.out]; rfl, hr2, Lib.hid HG.out.1⟩
set_option maxHeartbeats 1000000 in
theorem has_any {b o : Nat} {v : Value} {s : Nat} {l : List P2} (w : World) (h : SetAt w b o v s l) (x : Nat) :
    Calls Tryz.prog 146 #[.pointer (some ⟨b, o, none⟩), .int .u64 x] w fun e w' => ∃ r : Nat, e = .returned (.bool (match l[r]? with | some e => decide (e.1 ≤ x) | none => false)) ∧ Hid (AtIs l x r) ∧ Hid (Fr (fun _ => False) w w') := by
  have hn := h.len
  have hat := Lib.hid (at_any w h x)
  have H := Lib.hid h
  clear h
  go_enter Tryz.func146, Tryz.ntmps146
  go_wp2_with (first | (go_at_call 206; refine hat.out.mono ?_; rintro e w1 ⟨r, rfl, hr2, hf1⟩; refine hold' ?_))
  unfold Held'
  obtain ⟨al, cl, hv, hle, hpc⟩ := (H.out.quiet hf1.out).piece
  have hcell := (H.out.quiet hf1.out).cell
  rw [hv] at hcell
  rename_i hK
  refine hK _ _ ?_
  clear hK hat
  by_cases hlt : r < l.length
  · obtain ⟨e, hei⟩ : ∃ e, l[r]? = some e := ⟨_, List.getElem?_eq_getElem hlt⟩
    obtain ⟨pb, po, rfl, c0, c1⟩ := hpc _ _ hei
    have E : Hid ((match l[r]? with | some e => decide (e.1 ≤ x) | none => false) = decide (e.1 ≤ x)) := Lib.hid (by rw [hei])
    clear hpc hle hv hei
    by_cases hx : e.1 ≤ x
    · go_wp2_with fail
      go_ret
      exact ⟨r, by rw [E.out, decide_eq_true hx]; rfl, hr2, hf1⟩
    · go_wp2_with fail
      go_ret
      exact ⟨r, by rw [E.out, decide_eq_false hx]; rfl, hr2, hf1⟩
  · have E : Hid ((match l[r]? with | some e => decide (e.1 ≤ x) | none => false) = false) := Lib.hid (by rw [List.getElem?_eq_none (by omega)])
    clear hpc hle hv
    go_wp2_with fail
    go_ret
    exact ⟨r, by rw [E.out]; rfl, hr2, hf1⟩
end One
end Go.Proofs.YtnjaaagiindclaaGreatDoor
