/-
  A new generation: what was swept is so no more.
-/
import Derived.Test.YtanaicjeheacoaaAwake
namespace Go.Proofs.Ytanaicjeheacoaa
open Go.RowKit Go.Deep

theorem flip_busy {s : Nat} {L : List It} {F : Nat → Prop} (w : World) (h0 : Is w s L F) (hL : L.length ≤ 1000000) (hn : 0 < num L false) :
    Calls Try.prog 16 #[.pointer (some ⟨s, 0, none⟩)] w fun e w' => e = .returned (.int .i64 33) ∧ Fr (fun _ => False) w w' := by
  obtain ⟨m1, m2, m3, i1, i2, i3, h, hF⟩ := h0
  have C := Lib.hid (count_any w h.core false hL)
  have hle : num L false ≤ 1000000 := Nat.le_trans (List.length_filter_le _ _) hL
  clear h hF
  generalize num L false = n at *
  go_enter Try.func16, Try.ntmps16
  go_wp2_with (go_at_call 14; refine C.out.mono ?_; rintro e w1 ⟨rfl, O1⟩; have O2 := Lib.hid O1; clear O1)
  go_ret
  exact ⟨rfl, O2.out⟩

/-- a span of the new generation -/
def It.turned (x : It) : It := ⟨x.b, x.id, x.base, (x.kd.1, x.kd.2.1, x.kd.2.2.1, false)⟩
def turnk (k : Kd) : Kd := (k.1, k.2.1, k.2.2.1, false)

theorem turnk_inj {k k' : Kd} (h : k.2.2.2 = true) (h' : k'.2.2.2 = true) (he : turnk k = turnk k') : k = k' := by
  obtain ⟨a, b, c, d⟩ := k
  obtain ⟨a', b', c', d'⟩ := k'
  simp only [turnk, Prod.mk.injEq] at *
  simp_all

theorem RowOf.turned {L r : List It} {k : Kd} (hall : ∀ x ∈ L, x.kd.2.2.2 = true) (hk : k.2.2.2 = true) (h : RowOf L k r) : RowOf (L.map It.turned) (turnk k) (r.map It.turned) := by
  refine ⟨?_, fun y => ?_⟩
  · rw [List.pairwise_map]
    exact h.ord
  · simp only [List.mem_map]
    constructor
    · rintro ⟨x, hx, rfl⟩
      obtain ⟨h1, h2⟩ := (h.mem x).1 hx
      exact ⟨⟨x, h1, rfl⟩, by rw [← h2]; rfl⟩
    · rintro ⟨⟨x, hx, rfl⟩, he⟩
      exact ⟨x, (h.mem x).2 ⟨hx, turnk_inj (hall x hx) hk he⟩, rfl⟩

theorem ptr_turned (r : List It) : (r.map It.turned).map It.ptr = r.map It.ptr := by
  rw [List.map_map]; rfl

theorem swept_all {L : List It} (h : num L false = 0) : ∀ x ∈ L, x.kd.2.2.2 = true := fun x hx => by
  unfold num at h
  have := List.filter_eq_nil_iff.1 (List.eq_nil_of_length_eq_zero h) x hx
  simpa using this

/-- a span's record as it stands: of the new generation, if its kind has been met, or it is among those of bs -/
def half (D : List Kd) (bs : List Nat) (x : It) : It := if x.kd ∈ D ∨ x.b ∈ bs then x.turned else x

/-- where the walk of Flip stands: the kinds D have been turned -/
structure Turning (w0 w : World) (m3 mt it : Nat) (i3 t3 : List (Kd × Value)) (L : List It) (D : List Kd) (k : Nat) : Prop where
  iter : Iter kenc w it m3 i3 D
  nd : D.Nodup
  sub : ∀ p ∈ D, p ∈ i3.map (·.1)
  len : D.length + k = i3.length
  new : MapIs kenc w mt t3
  node : ∀ x ∈ L, w.heap[x.b]? = some (.cells (half D [] x).cells 58 (0, 0))
  has : ∀ q v, (q, v) ∈ t3 ↔ ∃ p, p ∈ D ∧ (p, v) ∈ i3 ∧ q = turnk p ∧ ∃ x ∈ L, x.kd = p
  fr : Fr (fun b => ∃ x ∈ L, b = x.b) w0 w

/-- within a row r of kind p: its first j have been turned -/
structure Mid (w0 w : World) (m3 mt it : Nat) (i3 t3 : List (Kd × Value)) (L : List It) (D : List Kd) (p : Kd) (r : List It) (j : Nat) : Prop where
  iter : Iter kenc w it m3 i3 (p :: D)
  new : MapIs kenc w mt t3
  node : ∀ x ∈ L, w.heap[x.b]? = some (.cells (half D ((r.take j).map (·.b)) x).cells 58 (0, 0))
  fr : Fr (fun b => ∃ x ∈ L, b = x.b) w0 w

theorem Turning.into {w0 w w' : World} {m3 mt it k : Nat} {i3 t3 : List (Kd × Value)} {L r : List It} {D : List Kd} {p : Kd} (h : Turning w0 w m3 mt it i3 t3 L D k) (hit : w0.heap.size ≤ it) (hmt : mt ≠ it)
    (hL : ∀ x ∈ L, x.b < w0.heap.size) (hi : Iter kenc w' it m3 i3 (p :: D)) (hf : Fr (fun b => b = it) w w') : Mid w0 w' m3 mt it i3 t3 L D p r 0 :=
  ⟨hi, h.new.fr hf hmt, fun x hx => hf.at (h.node x hx) (fun e => by have := hL x hx; omega), h.fr.trans hf (fun b hb e => by omega)⟩

theorem Mid.quiet {w0 w w' : World} {m3 mt it j : Nat} {i3 t3 : List (Kd × Value)} {L r : List It} {D : List Kd} {p : Kd} (h : Mid w0 w m3 mt it i3 t3 L D p r j) (hf : Fr (fun _ => False) w w') : Mid w0 w' m3 mt it i3 t3 L D p r j :=
  ⟨h.iter.fr hf (fun x => x) (fun x => x), h.new.fr hf (fun x => x), fun x hx => hf.at (h.node x hx) (fun x => x), h.fr.trans hf (fun _ _ x => x.elim)⟩

theorem b_inj {L : List It} (h : (L.map (·.b)).Nodup) {x y : It} (hx : x ∈ L) (hy : y ∈ L) (e : x.b = y.b) : x = y := by
  obtain ⟨i, hi⟩ := List.mem_iff_getElem?.1 hx
  obtain ⟨j, hj⟩ := List.mem_iff_getElem?.1 hy
  have := nodup_inj h (i := i) (j := j) (a := y.b) (by rw [List.getElem?_map, hi]; simp [e]) (by rw [List.getElem?_map, hj]; rfl)
  subst this
  rw [hi] at hj; simpa using hj

theorem Mid.step {w0 w w' : World} {m3 mt it j : Nat} {i3 t3 : List (Kd × Value)} {L r : List It} {D : List Kd} {p : Kd} {x : It} (h : Mid w0 w m3 mt it i3 t3 L D p r j) (hn : (L.map (·.b)).Nodup) (hr : RowOf L p r) (hx : r[j]? = some x)
    (hL : ∀ x ∈ L, x.b ≠ it ∧ x.b ≠ mt ∧ x.b ≠ m3) (hf : Fr (fun b => b = x.b) w w') (hw : w'.heap[x.b]? = some (.cells x.turned.cells 58 (0, 0))) : Mid w0 w' m3 mt it i3 t3 L D p r (j + 1) := by
  have hxr := List.mem_of_getElem? hx
  have hxL : x ∈ L := ((hr.mem x).1 hxr).1
  obtain ⟨n1, n2, n3⟩ := hL x hxL
  have htake : r.take (j + 1) = r.take j ++ [x] := by rw [List.take_add_one, hx]; rfl
  refine ⟨h.iter.fr hf n1.symm n3.symm, h.new.fr hf n2.symm, fun y hy => ?_, h.fr.trans hf (fun b _ e => ⟨x, hxL, e⟩)⟩
  by_cases hyx : y = x
  · subst hyx
    have : half D ((r.take (j + 1)).map (·.b)) y = y.turned := by unfold half; rw [if_pos]; right; rw [htake]; simp
    rw [this]; exact hw
  · have hne : y.b ≠ x.b := fun e => hyx (b_inj hn hy hxL e)
    have : half D ((r.take (j + 1)).map (·.b)) y = half D ((r.take j).map (·.b)) y := by
      unfold half
      rw [htake]
      simp [hne]
    rw [this]
    exact hf.at (h.node y hy) hne

theorem half_row {L r : List It} {D : List Kd} {p : Kd} (hn : (L.map (·.b)).Nodup) (hr : RowOf L p r) {x : It} (hx : x ∈ L) : half D (r.map (·.b)) x = half (p :: D) [] x := by
  unfold half
  have : (x.kd ∈ D ∨ x.b ∈ r.map (·.b)) ↔ (x.kd ∈ p :: D ∨ x.b ∈ ([] : List Nat)) := by
    simp only [List.mem_cons, List.mem_map, List.not_mem_nil, or_false]
    constructor
    · rintro (h | ⟨y, hy, e⟩)
      · exact .inr h
      · have hyL := (hr.mem y).1 hy
        have := b_inj hn hyL.1 hx e
        subst this
        exact .inl hyL.2
    · rintro (h | h)
      · exact .inr ⟨x, (hr.mem x).2 ⟨hx, h⟩, rfl⟩
      · exact .inl h
  by_cases h : x.kd ∈ D ∨ x.b ∈ r.map (·.b)
  · rw [if_pos h, if_pos (this.1 h)]
  · rw [if_neg h, if_neg (fun e => h (this.2 e))]

theorem Turning.out {w0 w w1 w' : World} {m3 mt it k : Nat} {i3 t3 : List (Kd × Value)} {L r : List It} {D : List Kd} {p : Kd} {v : Value} (h : Turning w0 w m3 mt it i3 t3 L D k) (hp : (p, v) ∈ i3) (hpd : p ∉ D) (hn : (L.map (·.b)).Nodup) (hr : RowOf L p r)
    (hS : ∀ x ∈ L, x.kd.2.2.2 = true) (hm : Mid w0 w1 m3 mt it i3 t3 L D p r r.length) (h0 : 0 < r.length) (h3 : m3 ≠ mt) (hit : it ≠ mt) (hmt : w0.heap.size ≤ mt) (hL : ∀ x ∈ L, x.b < w0.heap.size)
    (hf : Fr (fun b => b = mt) w1 w') (hw : MapIs kenc w' mt (mapSet t3 (turnk p) v)) : Turning w0 w' m3 mt it i3 (mapSet t3 (turnk p) v) L (p :: D) (i3.length - D.length - 1) ∧ i3.length - D.length - 1 < k := by
  have nd := List.nodup_cons.2 ⟨hpd, h.nd⟩
  have sub : ∀ q ∈ p :: D, q ∈ i3.map (·.1) := by
    intro q hq
    rcases List.mem_cons.1 hq with rfl | hq
    · exact List.mem_map.2 ⟨(q, v), hp, rfl⟩
    · exact h.sub q hq
  have hl := nodup_le nd h.iter.map.nodup sub
  have hlen := h.len
  simp only [List.length_cons, List.length_map] at hl
  obtain ⟨x, hx⟩ := List.exists_mem_of_length_pos h0
  have hxL := (hr.mem x).1 hx
  have hps : p.2.2.2 = true := by rw [← hxL.2]; exact hS x hxL.1
  have hi3 := h.iter.map.nodup
  refine ⟨⟨hm.iter.fr hf hit h3, nd, sub, by simp only [List.length_cons]; omega, hw, fun y hy => ?_, fun q u => ?_, hm.fr.trans hf (fun b hb e => by omega)⟩, by omega⟩
  · have := hm.node y hy
    rw [List.take_length, half_row hn hr hy] at this
    exact hf.at this (fun e => by have := hL y hy; omega)
  · rw [mem_mapSet h.new.nodup]
    simp only [Prod.mk.injEq]
    rw [h.has]
    constructor
    · rintro (⟨rfl, rfl⟩ | ⟨hq, p', hp', h1, h2, h3⟩)
      · exact ⟨p, by simp, hp, rfl, x, hxL⟩
      · exact ⟨p', List.mem_cons_of_mem _ hp', h1, h2, h3⟩
    · rintro ⟨p', hp', h1, rfl, y, hy, hyk⟩
      rcases List.mem_cons.1 hp' with rfl | hp2
      · left
        refine ⟨rfl, ?_⟩
        have e1 := (mapGet_some hi3).2 h1
        have e2 := (mapGet_some hi3).2 hp
        rw [e1] at e2
        simpa using e2
      · right
        refine ⟨fun e => ?_, p', hp2, h1, rfl, y, hy, hyk⟩
        have : p' = p := turnk_inj (by rw [← hyk]; exact hS y hy) hps e
        exact hpd (this ▸ hp2)

theorem Turning.none {w0 w w1 : World} {m3 mt it k : Nat} {i3 t3 : List (Kd × Value)} {L : List It} {D : List Kd} {p : Kd} {v : Value} (h : Turning w0 w m3 mt it i3 t3 L D k) (hp : (p, v) ∈ i3) (hpd : p ∉ D) (hn : (L.map (·.b)).Nodup) (hr : RowOf L p [])
    (hm : Mid w0 w1 m3 mt it i3 t3 L D p [] 0) : Turning w0 w1 m3 mt it i3 t3 L (p :: D) (i3.length - D.length - 1) ∧ i3.length - D.length - 1 < k := by
  have nd := List.nodup_cons.2 ⟨hpd, h.nd⟩
  have sub : ∀ q ∈ p :: D, q ∈ i3.map (·.1) := by
    intro q hq
    rcases List.mem_cons.1 hq with rfl | hq
    · exact List.mem_map.2 ⟨(q, v), hp, rfl⟩
    · exact h.sub q hq
  have hl := nodup_le nd h.iter.map.nodup sub
  have hlen := h.len
  simp only [List.length_cons, List.length_map] at hl
  refine ⟨⟨hm.iter, nd, sub, by simp only [List.length_cons]; omega, hm.new, fun y hy => ?_, fun q u => ?_, hm.fr⟩, by omega⟩
  · have := hm.node y hy
    rw [List.take_nil, half_row hn hr hy] at this
    exact this
  · rw [h.has]
    constructor
    · rintro ⟨p', hp', h⟩; exact ⟨p', List.mem_cons_of_mem _ hp', h⟩
    · rintro ⟨p', hp', h1, h2, y, hy, hyk⟩
      rcases List.mem_cons.1 hp' with rfl | hp'
      · have := (hr.mem y).2 ⟨hy, hyk⟩; simp at this
      · exact ⟨p', hp', h1, h2, y, hy, hyk⟩

/-- all kinds have been turned, and the new map is the sets' -/
theorem flipped {w w1 wr w' : World} {s m1 m2 m3 mt it k : Nat} {i1 i2 : List (Int × Value)} {i3 t3 : List (Kd × Value)} {L : List It} {D : List Kd} {F : Nat → Prop} (H : Sets w s m1 m2 m3 i1 i2 i3 L) (hF : ∀ b, sfp s m1 m2 m3 i3 L b → F b)
    (hS : ∀ x ∈ L, x.kd.2.2.2 = true) (F1 : Fr (fun _ => False) w w1) (T : Turning w1 wr m3 mt it i3 t3 L D k) (hmt : w1.heap.size ≤ mt) (hall : ∀ p ∈ i3, p.1 ∈ D) (F2 : Fr (fun b => b = s) wr w')
    (hroot : w'.heap[s]? = some (.cells #[.map (some m1), .map (some m2), .map (some mt)] 53 (0, 0))) : Is w' s (L.map It.turned) (fun b => F b ∨ w.heap.size ≤ b) ∧ Fr F w w' := by
  have g1 : Fr (fun b => ∃ x ∈ L, b = x.b) w wr := (F1.mono (fun _ _ => False.elim)).trans T.fr (fun _ _ h => h)
  have g2 : Fr (fun b => (∃ x ∈ L, b = x.b) ∨ b = s) w w' := (g1.mono (fun _ _ h => .inl h)).trans F2 (fun _ _ h => .inr h)
  have hsz := F1.size
  have hsl := lt_blk H.core.root
  have hD : ∀ x ∈ L, x.kd ∈ D := fun x hx => by
    obtain ⟨p, hp, he⟩ := List.mem_map.1 (H.core.all x hx)
    rw [← he]; exact hall p hp
  have hm1 : ¬ ((∃ x ∈ L, m1 = x.b) ∨ m1 = s) := by
    rintro (⟨x, hx, e⟩ | e)
    · exact H.ids.ne (H.core.node x hx) e.symm
    · exact H.ids.ne H.core.root e.symm
  have hm2 : ¬ ((∃ x ∈ L, m2 = x.b) ∨ m2 = s) := by
    rintro (⟨x, hx, e⟩ | e)
    · exact H.bases.ne (H.core.node x hx) e.symm
    · exact H.bases.ne H.core.root e.symm
  have hids := H.ids.lt
  have hbases := H.bases.lt
  have hrow : ∀ q v, (q, v) ∈ t3 → ∃ p, p.2.2.2 = true ∧ (p, v) ∈ i3 ∧ q = turnk p := fun q v hm => by
    obtain ⟨p, _, h2, h3, x, hx, he⟩ := (T.has q v).1 hm
    exact ⟨p, by rw [← he]; exact hS x hx, h2, h3⟩
  have hmem : ∀ y, y ∈ L.map It.turned → ∃ x ∈ L, x.turned = y := fun y hy => List.mem_map.1 hy
  refine ⟨⟨m1, m2, mt, i1, i2, t3, ⟨⟨hroot, T.new.fr F2 (fun e => by omega), fun y hy => ?_, ?_, ?_, fun q v hm => ?_, fun y hy => ?_, fun y hy => ?_, fun q v g hm hg => ?_, fun q v q' v' g hm hm' hg hg' => ?_⟩,
    H.ids.fr g2 hm1, H.bases.fr g2 hm2, fun z v => ?_, fun z v => ?_, ?_, ⟨H.sepM.1, by omega, by omega⟩⟩, fun b hb => ?_⟩, g2.mono (fun b _ hb => hF b ?_)⟩
  · obtain ⟨x, hx, rfl⟩ := hmem y hy
    have := T.node x hx
    have hh : half D [] x = x.turned := by unfold half; rw [if_pos (.inl (hD x hx))]
    rw [hh] at this
    exact F2.at this (fun e => H.core.sepS x hx e)
  · rw [List.map_map]; exact H.core.ndb
  · rw [List.map_map]; exact H.core.ndB
  · obtain ⟨p, hps, hp, rfl⟩ := hrow q v hm
    obtain ⟨r, hr, ho⟩ := H.core.row p v hp
    refine ⟨r.map It.turned, hr.turned hS hps, ?_⟩
    rw [ptr_turned, List.length_map]
    refine ownsRow_keep ho g2 (fun g hg => ?_)
    rintro (⟨x, hx, e⟩ | e)
    · exact (H.core.sepR p v g hp hg).2 x hx e
    · exact (H.core.sepR p v g hp hg).1 e
  · obtain ⟨x, hx, rfl⟩ := hmem y hy
    obtain ⟨⟨p, v⟩, hp, he⟩ := List.mem_map.1 (H.core.all x hx)
    simp only at he
    subst he
    exact List.mem_map.2 ⟨(turnk x.kd, v), (T.has _ _).2 ⟨x.kd, hD x hx, hp, rfl, x, hx, rfl⟩, rfl⟩
  · obtain ⟨x, hx, rfl⟩ := hmem y hy
    exact H.core.sepS x hx
  · obtain ⟨p, _, hp, _⟩ := hrow q v hm
    refine ⟨(H.core.sepR p v g hp hg).1, fun y hy => ?_⟩
    obtain ⟨x, hx, rfl⟩ := hmem y hy
    exact (H.core.sepR p v g hp hg).2 x hx
  · obtain ⟨p, _, hp, rfl⟩ := hrow q v hm
    obtain ⟨p', _, hp', rfl⟩ := hrow q' v' hm'
    rw [H.core.sepK p v p' v' g hp hp' hg hg']
  · rw [H.idsL]
    constructor
    · rintro ⟨x, hx, h1, h2⟩; exact ⟨x.turned, List.mem_map_of_mem hx, h1, h2⟩
    · rintro ⟨y, hy, h1, h2⟩
      obtain ⟨x, hx, rfl⟩ := hmem y hy
      exact ⟨x, hx, h1, h2⟩
  · rw [H.basesL]
    constructor
    · rintro ⟨x, hx, h1, h2⟩; exact ⟨x.turned, List.mem_map_of_mem hx, h1, h2⟩
    · rintro ⟨y, hy, h1, h2⟩
      obtain ⟨x, hx, rfl⟩ := hmem y hy
      exact ⟨x, hx, h1, h2⟩
  · rw [List.map_map]; exact H.ndI
  · rcases hb with hb | hb | hb | hb | ⟨y, hy, hb⟩ | ⟨q, v, hm, hb⟩
    · exact .inl (hF b (.inl hb))
    · exact .inl (hF b (.inr (.inl hb)))
    · exact .inl (hF b (.inr (.inr (.inl hb))))
    · exact .inr (by omega)
    · obtain ⟨x, hx, rfl⟩ := hmem y hy
      exact .inl (hF b (.inr (.inr (.inr (.inr (.inl ⟨x, hx, hb⟩))))))
    · obtain ⟨p, _, hp, _⟩ := hrow q v hm
      exact .inl (hF b (.inr (.inr (.inr (.inr (.inr ⟨p, v, hp, hb⟩))))))
  · rcases hb with ⟨x, hx, e⟩ | e
    · exact .inr (.inr (.inr (.inr (.inl ⟨x, hx, e⟩))))
    · exact .inl e
end Go.Proofs.Ytanaicjeheacoaa
