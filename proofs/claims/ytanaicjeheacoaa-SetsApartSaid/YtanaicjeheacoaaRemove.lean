/-
  A span is removed.
-/
import Derived.Test.YtanaicjeheacoaaTurn
import Derived.Deep.RegionHeld3
import Derived.Deep.RegionWith
namespace Go.Proofs.Ytanaicjeheacoaa
open Go.RowKit Go.Deep

/-- sets, of which F names the blocks -/
def Is (w : World) (s : Nat) (L : List It) (F : Nat → Prop) : Prop := ∃ m1 m2 m3 i1 i2 i3, Sets w s m1 m2 m3 i1 i2 i3 L ∧ ∀ b, sfp s m1 m2 m3 i3 L b → F b

/-- what the code looks at -/
theorem Core.sight {w : World} {s m1 m2 m3 : Nat} {i3 : List (Kd × Value)} {L : List It} (h : Core w s m1 m2 m3 i3 L) {x : It} (hx : x ∈ L) :
    (w.cell? ⟨s, 0, none⟩ = some (.map (some m1)) ∧ w.cell? ⟨s, 1, none⟩ = some (.map (some m2)) ∧ w.cell? ⟨s, 2, none⟩ = some (.map (some m3))) ∧
    w.cell? ⟨x.b, 0, none⟩ = some (.int .i64 x.id) ∧ w.cell? ⟨x.b, 1, none⟩ = some (.int .u64 x.base) ∧ w.cell? ⟨x.b, 2, none⟩ = some (.int .i64 x.kd.1) ∧ w.cell? ⟨x.b, 3, none⟩ = some (.bool x.kd.2.1) ∧ w.cell? ⟨x.b, 4, none⟩ = some (.bool x.kd.2.2.1) ∧ w.cell? ⟨x.b, 5, none⟩ = some (.bool x.kd.2.2.2) :=
  ⟨blk3 h.root, blk6 (h.node x hx)⟩

theorem row_split {L : List It} {r : List It} {x : It} (h : RowOf L x.kd r) (hx : x ∈ L) : ∃ pre post, r = pre ++ x :: post ∧ pos r x.base = pre.length := by
  obtain ⟨pre, post, rfl⟩ := List.append_of_mem ((h.mem x).2 ⟨hx, rfl⟩)
  have ho := h.ord
  rw [List.pairwise_append] at ho
  refine ⟨pre, post, rfl, pos_of (by simp) (fun i y hi hy => ?_) (fun i y hi hy => ?_)⟩
  · rw [List.getElem?_append_left hi] at hy
    exact ho.2.2 y (List.mem_of_getElem? hy) x (by simp)
  · rw [List.getElem?_append_right hi] at hy
    rcases List.mem_cons.1 (List.mem_of_getElem? hy) with rfl | hm
    · exact Int.le_refl _
    · have := (List.pairwise_cons.1 ho.2.1).1 y hm; omega

theorem RowOf.cut {L : List It} {x : It} {pre post : List It} (h : RowOf L x.kd (pre ++ x :: post)) (hn : (L.map (·.id)).Nodup) (hx : x ∈ L) : RowOf (L.filter (fun y => decide (y.id ≠ x.id))) x.kd (pre ++ post) := by
  have ho := h.ord
  refine ⟨ho.sublist (List.Sublist.append_left (List.sublist_cons_self _ _) _), fun y => ?_⟩
  have hm := h.mem y
  simp only [List.mem_append, List.mem_cons, List.mem_filter, decide_eq_true_eq] at hm ⊢
  rw [List.pairwise_append] at ho
  constructor
  · intro hy
    have hy' : y ∈ L ∧ y.kd = x.kd := hm.1 (hy.elim .inl (fun h => .inr (.inr h)))
    refine ⟨⟨hy'.1, fun he => ?_⟩, hy'.2⟩
    have hyx : y = x := by
      obtain ⟨i, hi⟩ := List.mem_iff_getElem?.1 hy'.1
      obtain ⟨j, hj⟩ := List.mem_iff_getElem?.1 hx
      have := nodup_inj hn (i := i) (j := j) (a := x.id) (by rw [List.getElem?_map, hi]; simp [he]) (by rw [List.getElem?_map, hj]; rfl)
      subst this
      rw [hi] at hj; simpa using hj
    subst hyx
    rcases hy with hy | hy
    · have := ho.2.2 y hy y (by simp); omega
    · have := (List.pairwise_cons.1 ho.2.1).1 y hy; omega
  · rintro ⟨⟨h1, h2⟩, h3⟩
    rcases hm.2 ⟨h1, h3⟩ with h4 | rfl | h4
    · exact .inl h4
    · exact absurd rfl h2
    · exact .inr h4

theorem ownBlock_len (a : Option Addr) (n n' c : Nat) : (Value.slice a n c).ownBlock = (Value.slice a n' c).ownBlock := by cases a <;> rfl

/-- the sets behind a removal -/
theorem removed {w w1 w2 w3 w4 w5 : World} {s m1 m2 m3 c : Nat} {i1 i2 : List (Int × Value)} {i3 : List (Kd × Value)} {L r pre post : List It} {F : Nat → Prop} {x : It} {a : Option Addr} {v4 : Value}
    (H : Sets w s m1 m2 m3 i1 i2 i3 L) (hF : ∀ b, sfp s m1 m2 m3 i3 L b → F b) (hx : x ∈ L) (hv : (mapGet i3 x.kd).getD (.slice none 0 0) = .slice a r.length c) (hr : RowOf L x.kd r) (hsp : r = pre ++ x :: post)
    (M1 : MapIs ienc w1 m1 (mapDel i1 x.id)) (F1 : Fr (fun b => b = m1) w w1) (M2 : MapIs benc w2 m2 (mapDel i2 x.base)) (F2 : Fr (fun b => b = m2) w1.drew w2) (F3 : Fr (fun _ => False) w2.drew w3)
    (ho : w4.ownsRow 0 54 1 v4 (pre.length + (r.length - (pre.length + 1))) ((r.map It.ptr).take (pre.length * 1) ++ (r.map It.ptr).drop ((pre.length + 1) * 1)))
    (F4 : Fr (fun b => some b = (Value.slice a pre.length c).ownBlock) w3 w4) (hg4 : ∀ g, v4.ownBlock = some g → (Value.slice a pre.length c).ownBlock = some g ∨ w3.heap.size ≤ g)
    (M5 : MapIs kenc w5 m3 (mapSet i3 x.kd v4)) (F5 : Fr (fun b => b = m3) w4 w5) :
    Is w5 s (L.filter (fun y => decide (y.id ≠ x.id))) (fun b => F b ∨ w.heap.size ≤ b) ∧ Fr F w w5 := by
  have hob : (Value.slice a pre.length c).ownBlock = (Value.slice a r.length c).ownBlock := ownBlock_len a _ _ c
  rw [hob] at F4 hg4
  generalize hvv : Value.slice a r.length c = v at hv F4 hg4
  have g2 : Fr (fun b => b = m1 ∨ b = m2) w w2 := (F1.drew.mono (fun _ _ h => .inl h)).trans F2 (fun _ _ h => .inr h)
  have g3 : Fr (fun b => b = m1 ∨ b = m2) w w3 := g2.drew.trans F3 (fun _ _ => False.elim)
  have hsz3 := g3.size
  have hown : ∀ g, v.ownBlock = some g → (x.kd, v) ∈ i3 := fun g hg => H.core.own hv hg
  have hm1 : ∀ g, v.ownBlock = some g → g ≠ m1 ∧ g ≠ m2 ∧ g ≠ m3 ∧ g < w.heap.size := fun g hg => by
    obtain ⟨r', _, ho'⟩ := H.core.row _ _ (hown g hg)
    obtain ⟨cur, hc⟩ := ownsRow_blk ho' hg
    exact ⟨H.ids.ne hc, H.bases.ne hc, H.core.sets.ne hc, lt_blk hc⟩
  have g5 : Fr (fun b => (b = m1 ∨ b = m2) ∨ b = m3 ∨ some b = v.ownBlock) w w5 :=
    ((g3.mono (fun _ _ h => Or.inl h)).trans F4 (fun _ _ h => .inr (.inr h))).trans F5 (fun _ _ h => .inr (.inl h))
  have hsm : s ≠ m1 ∧ s ≠ m2 := ⟨H.ids.ne H.core.root, H.bases.ne H.core.root⟩
  have hrow' : (r.map It.ptr).take (pre.length * 1) ++ (r.map It.ptr).drop ((pre.length + 1) * 1) = (pre ++ post).map It.ptr := by
    rw [hsp]
    simp only [Nat.mul_one, List.map_append, List.map_cons]
    have e1 : (pre.map It.ptr ++ x.ptr :: post.map It.ptr).take pre.length = pre.map It.ptr := List.take_left' (by simp)
    have e2 : (pre.map It.ptr ++ x.ptr :: post.map It.ptr).drop (pre.length + 1) = post.map It.ptr := by
      rw [show pre.map It.ptr ++ x.ptr :: post.map It.ptr = (pre.map It.ptr ++ [x.ptr]) ++ post.map It.ptr by simp]
      exact List.drop_left' (by simp)
    rw [e1, e2]
  have hlen : pre.length + (r.length - (pre.length + 1)) = (pre ++ post).length := by rw [hsp]; simp; omega
  rw [hrow', hlen] at ho
  have ho5 : w5.ownsRow 0 54 1 v4 (pre ++ post).length ((pre ++ post).map It.ptr) := ownsRow_keep ho F5 (fun g hg he => by
    rcases hg4 g hg with h1 | h1
    · exact (hm1 g h1).2.2.1 he
    · have := H.core.sets.lt; omega)
  have hnx : ∀ y ∈ L, w5.heap[y.b]? = some (.cells y.cells 58 (0, 0)) := fun y hy => g5.at (H.core.node y hy) (by
    rintro ((h | h) | h | h)
    · exact H.ids.ne (H.core.node y hy) h
    · exact H.bases.ne (H.core.node y hy) h
    · exact H.core.sets.ne (H.core.node y hy) h
    · exact (H.core.sepR _ _ _ (hown _ h.symm) h.symm).2 y hy rfl)
  have hsub : ∀ y ∈ L.filter (fun y => decide (y.id ≠ x.id)), y ∈ L := fun y hy => (List.mem_filter.1 hy).1
  have hinj : ∀ y ∈ L, y.id = x.id → y = x := fun y hy he => by
    obtain ⟨i, hi⟩ := List.mem_iff_getElem?.1 hy
    obtain ⟨j, hj⟩ := List.mem_iff_getElem?.1 hx
    have := nodup_inj H.ndI (i := i) (j := j) (a := x.id) (by rw [List.getElem?_map, hi]; simp [he]) (by rw [List.getElem?_map, hj]; rfl)
    subst this
    rw [hi] at hj; simpa using hj
  have hinjb : ∀ y ∈ L, y.base = x.base → y = x := fun y hy he => by
    obtain ⟨i, hi⟩ := List.mem_iff_getElem?.1 hy
    obtain ⟨j, hj⟩ := List.mem_iff_getElem?.1 hx
    have := nodup_inj H.core.ndB (i := i) (j := j) (a := x.base) (by rw [List.getElem?_map, hi]; simp [he]) (by rw [List.getElem?_map, hj]; rfl)
    subst this
    rw [hi] at hj; simpa using hj
  have hv4x : ∀ y ∈ L, ∀ g, v4.ownBlock = some g → g ≠ y.b := fun y hy g hg => by
    rcases hg4 g hg with h1 | h1
    · exact (H.core.sepR _ _ _ (hown _ h1) h1).2 y hy
    · have := lt_blk (H.core.node y hy); omega
  have hcut := RowOf.cut (hsp ▸ hr) H.ndI hx
  have C5 : Core w5 s m1 m2 m3 (mapSet i3 x.kd v4) (L.filter (fun y => decide (y.id ≠ x.id))) :=
    H.core.turn (S := fun b => b = m1 ∨ b = m2) hv (fun y hy => by rw [List.mem_filter]; exact ⟨fun h => h.1, fun h => ⟨h, by simp only [decide_eq_true_eq]; intro he; exact hy (by rw [hinj y h he])⟩⟩) hcut (fun y hy => hnx y (hsub y hy))
      (H.core.ndb.sublist (List.filter_sublist.map _)) (H.core.ndB.sublist (List.filter_sublist.map _)) g5 (fun h => h.elim hsm.1 hsm.2)
      (fun k u g hm hg h => by
        obtain ⟨r', _, ho'⟩ := H.core.row _ _ hm
        obtain ⟨cur, hc⟩ := ownsRow_blk ho' hg
        exact h.elim (H.ids.ne hc) (H.bases.ne hc)) M5 ho5 (fun g hg => (hg4 g hg).imp_right (fun h => by omega)) (fun y hy => ⟨hv4x y (hsub y hy), .inl (hsub y hy)⟩)
  have hq1 : ∀ z v, (z, v) ∈ mapDel i1 x.id ↔ ∃ y ∈ L.filter (fun y => decide (y.id ≠ x.id)), y.id = z ∧ v = y.ptr := fun z u => by
    rw [mem_mapDel H.ids.nodup, H.idsL]
    constructor
    · rintro ⟨h1, y, hy, h2, h3⟩
      exact ⟨y, List.mem_filter.2 ⟨hy, by simp only [decide_eq_true_eq]; rw [h2]; exact h1⟩, h2, h3⟩
    · rintro ⟨y, hy, h2, h3⟩
      have := (List.mem_filter.1 hy).2
      simp only [decide_eq_true_eq] at this
      exact ⟨by rw [← h2]; exact this, y, hsub y hy, h2, h3⟩
  have hq2 : ∀ z v, (z, v) ∈ mapDel i2 x.base ↔ ∃ y ∈ L.filter (fun y => decide (y.id ≠ x.id)), y.base = z ∧ v = y.ptr := fun z u => by
    rw [mem_mapDel H.bases.nodup, H.basesL]
    constructor
    · rintro ⟨h1, y, hy, h2, h3⟩
      refine ⟨y, List.mem_filter.2 ⟨hy, ?_⟩, h2, h3⟩
      simp only [decide_eq_true_eq]
      intro he
      rw [hinj y hy he] at h2
      exact h1 h2.symm
    · rintro ⟨y, hy, h2, h3⟩
      have hne := (List.mem_filter.1 hy).2
      simp only [decide_eq_true_eq] at hne
      refine ⟨fun he => hne ?_, y, hsub y hy, h2, h3⟩
      simp only at he
      rw [hinjb y (hsub y hy) (h2.trans he)]
  have a2 : MapIs ienc w2 m1 (mapDel i1 x.id) := MapIs.fr (w := w1.drew) (S := fun b => b = m2) M1 F2 H.sepM.1
  have a3 : MapIs ienc w3 m1 (mapDel i1 x.id) := MapIs.fr (w := w2.drew) (S := fun _ => False) a2 F3 (fun h => h)
  have M1' : MapIs ienc w5 m1 (mapDel i1 x.id) := (a3.fr F4 (fun h => (hm1 _ h.symm).1 rfl)).fr F5 H.sepM.2.1
  have b3 : MapIs benc w3 m2 (mapDel i2 x.base) := MapIs.fr (w := w2.drew) (S := fun _ => False) M2 F3 (fun h => h)
  have M2' : MapIs benc w5 m2 (mapDel i2 x.base) := (b3.fr F4 (fun h => (hm1 _ h.symm).2.1 rfl)).fr F5 H.sepM.2.2
  refine ⟨⟨m1, m2, m3, _, _, _, ⟨C5, M1', M2', hq1, hq2, H.ndI.sublist (List.filter_sublist.map _), H.sepM⟩, fun b hb => ?_⟩, g5.mono (fun b _ hb => hF b ?_)⟩
  · rcases hb with hb | hb | hb | hb | ⟨y, hy, hb⟩ | ⟨k, u, hm, hb⟩
    · exact .inl (hF b (.inl hb))
    · exact .inl (hF b (.inr (.inl hb)))
    · exact .inl (hF b (.inr (.inr (.inl hb))))
    · exact .inl (hF b (.inr (.inr (.inr (.inl hb)))))
    · exact .inl (hF b (.inr (.inr (.inr (.inr (.inl ⟨y, hsub y hy, hb⟩))))))
    · rcases (mem_mapSet H.core.sets.nodup _).1 hm with he | ⟨hne, hm⟩
      · simp only [Prod.mk.injEq] at he
        obtain ⟨rfl, rfl⟩ := he
        rcases hg4 b hb with h1 | h1
        · exact .inl (hF b (.inr (.inr (.inr (.inr (.inr ⟨_, v, hown _ h1, h1⟩))))))
        · exact .inr (by omega)
      · exact .inl (hF b (.inr (.inr (.inr (.inr (.inr ⟨k, u, hm, hb⟩))))))
  · rcases hb with (hb | hb) | hb | hb
    · exact .inr (.inl hb)
    · exact .inr (.inr (.inl hb))
    · exact .inr (.inr (.inr (.inl hb)))
    · exact .inr (.inr (.inr (.inr (.inr ⟨_, v, hown _ hb.symm, hb.symm⟩))))

theorem info_item : (Try.prog.info? 54).map (fun i => (i.zero, i.size, i.bytes)) = some (some (.pointer none), 1, 8) := by kernel_rfl

set_option maxHeartbeats 8000000 in
theorem remove_ok {s : Nat} {L : List It} {F : Nat → Prop} (w : World) (h0 : Is w s L F) (x : It) (hx : x ∈ L) (hL : L.length ≤ 1000000) :
    Calls Try.prog 11 #[.pointer (some ⟨s, 0, none⟩), .int .i64 x.id] w fun e w' => e = .returned (.int .i64 0) ∧ Is w' s (L.filter (fun y => decide (y.id ≠ x.id))) (fun b => F b ∨ w.heap.size ≤ b) ∧ Fr F w w' := by
  obtain ⟨m1, m2, m3, i1, i2, i3, h, hF⟩ := h0
  obtain ⟨⟨c1, c2, c3⟩, d0, d1, d2, d3, d4, d5⟩ := h.core.sight hx
  have H := Lib.hid h
  have HF := Lib.hid hF
  have hg := Lib.hid (h.find hx)
  have HX := Lib.hid hx
  clear h hF hx
  go_enter Try.func11, Try.ntmps11
  go_wp2_with (first | (refine wpList_map_lookup (by rfl) keyLaw_i Try.underlying49 _ _ false (by rfl) H.out.ids x.id (.pointer none) zero_item (by rfl) (by rfl) ?_; simp only [hg.out, Bool.false_eq_true, if_false]) | (refine wpList_map_del (by rfl) keyLaw_i Try.underlying49 _ _ _ (by rfl) H.out.ids x.id (by rfl) (by rfl) ?_; intro w1 hm1 hf1; have M1 := Lib.hid hm1; have F1 := Lib.hid hf1; clear hm1 hf1; go_simp))
  have C1 := Lib.hid (H.out.core.keep_map H.out.ids H.out.sepM.2.1 F1.out)
  have B1 := Lib.hid (H.out.bases.frk F1.out (fun e => H.out.sepM.1 e.symm))
  clear c1 c2 c3 d0 d1 d2 d3 d4 d5
  obtain ⟨⟨c1, c2, c3⟩, d0, d1, d2, d3, d4, d5⟩ := C1.out.sight HX.out
  go_region_held3 (fun w' => w'.cell? ⟨s, 1, none⟩ = some (.map (some m2)) ∧ w'.cell? ⟨x.b, 1, none⟩ = some (.int .u64 x.base)) (go_keep) ((refine step_plain (by rfl) (wp_map_del keyLaw_b Try.underlying50 _ _ _ (by rfl) (w := w1.drew) B1.out x.base (by rfl) (by rfl) ?_); intro w2 hm2 hf2; have M2 := Lib.hid hm2; have F2 := Lib.hid hf2; clear hm2 hf2; have C2 := Lib.hid ((C1.out.quiet (Fr.refl _ w1).drew).keep_map (w := w1.drew) B1.out H.out.sepM.2.2 F2.out); obtain ⟨⟨k1, k2, k3⟩, e0, e1, e2, e3, e4, e5⟩ := C2.out.sight HX.out))
  clear c1 c2 c3 d0 d1 d2 d3 d4 d5 k1 k2 k3
  obtain ⟨r, a, c, hv, hr, ho⟩ := C2.out.look x.kd
  obtain ⟨pre, post, hsp, hpos⟩ := row_split hr HX.out
  have hrl : r.length ≤ 1000000 := Nat.le_trans (by rw [row_len hr H.out.core.ndb]; exact List.length_filter_le _ _) hL
  have hp := place_any w2.drew (C2.out.quiet (Fr.refl _ w2).drew) x.kd x.base r a c hv hr ho.drew hrl
  rw [hpos] at hp
  unfold kenc at hp
  have HP := Lib.hid hp
  have HV := Lib.hid hv
  have HR := Lib.hid (And.intro hr hsp)
  have HO := Lib.hid ho
  clear hp hv hr hsp ho hpos
  go_wp2_with fail
  go_region_held3 (fun w' => w'.cell? ⟨x.b, 1, none⟩ = some (.int .u64 x.base) ∧ w'.cell? ⟨x.b, 2, none⟩ = some (.int .i64 x.kd.1) ∧ w'.cell? ⟨x.b, 3, none⟩ = some (.bool x.kd.2.1) ∧ w'.cell? ⟨x.b, 4, none⟩ = some (.bool x.kd.2.2.1) ∧ w'.cell? ⟨x.b, 5, none⟩ = some (.bool x.kd.2.2.2)) (go_keep) ((go_at_call 17; refine HP.out.mono ?_; rintro e w3 ⟨rfl, f3⟩; have F3 := Lib.hid f3; clear f3; have C3 := Lib.hid ((C2.out.quiet (Fr.refl _ w2).drew).quiet F3.out); obtain ⟨⟨k1, k2, k3⟩, j0, j1, j2, j3, j4, j5⟩ := C3.out.sight HX.out))
  clear e0 e1 e2 e3 e4 e5 k1 k2 j0 j1
  have look := fun n => run_row ((C3.out.sets).drewN n) HV.out
  unfold kenc at look
  go_wp2_with fail
  go_quiet (fail)
  obtain ⟨i0, hi, hz0, hz1, hz2⟩ := info_parts info_item
  have HO3 := Lib.hid (ownsRow_keep (ownsRow_keep HO.out (Fr.refl (fun _ => False) w2).drew (fun _ _ x => x)) F3.out (fun _ _ x => x))
  have hrn : r.length = pre.length + (post.length + 1) := by rw [HR.out.2]; simp
  have hcap := ownsRow_cap HO3.out
  have s1 := run_to 60 54 i0 Try.underlying60 hi a r.length c .i64 pre.length (by omega)
  have s2 := run_from 60 54 i0 Try.underlying60 hi 1 hz1 a r.length c .i64 (pre.length + 1) (by omega) hcap
  have hrd := Lib.hid ((ownsRow_rd HO3.out).from (k := pre.length + 1) (by omega))
  have hpre := Lib.hid (ownsRow_prefix HO3.out (k := pre.length) (by omega))
  have hpl : pre.length ≤ 1000000 := by omega
  rw [Int.natCast_add, Int.natCast_one] at s2
  generalize sliced a (pre.length + 1) r.length c 1 = sv at s2 hrd
  have hA1 := Lib.hid (show ∀ u ∈ ((r.map It.ptr).drop ((pre.length + 1) * 1)), u.oneCell' = true from fun u hu => by obtain ⟨y, _, rfl⟩ := List.mem_map.1 (List.mem_of_mem_drop hu); rfl)
  have hA2 := Lib.hid (show pre.length + (r.length - (pre.length + 1)) ≤ maxLen by simp only [maxLen]; omega)
  have hA3 := Lib.hid (show (pre.length + (r.length - (pre.length + 1))) * 8 ≤ 140737488355328 by omega)
  have hA4 : (-9223372036854775808 : Int) ≤ (pre.length : Int) + 1 ∧ (pre.length : Int) + 1 ≤ 9223372036854775807 := by omega
  replace hrn := Lib.hid hrn
  have hw : IntKind.i64.wrap ((pre.length : Int) + 1) = (pre.length : Int) + 1 := IntWalk.i64_in _ hA4
  clear hcap hA4
  go_wp2_with fail
  go_region_held3 (fun w' => w'.cell? ⟨s, 2, none⟩ = some (.map (some m3)) ∧ w'.cell? ⟨x.b, 2, none⟩ = some (.int .i64 x.kd.1) ∧ w'.cell? ⟨x.b, 3, none⟩ = some (.bool x.kd.2.1) ∧ w'.cell? ⟨x.b, 4, none⟩ = some (.bool x.kd.2.2.1) ∧ w'.cell? ⟨x.b, 5, none⟩ = some (.bool x.kd.2.2.2)) (go_keep) ((refine step_plain (by rfl) (wp_append_rows _ _ 60 (by rfl) 54 i0 _ 1 8 Try.underlying60 hi hz0 hz1 hz2 (by rfl) (by decide) _ _ _ (by rfl) hpre.out _ _ _ (by rfl) hrd.out hA1.out hA2.out hA3.out ?_); intro v4 w4 ho4 hf4 hg4; have P4 := Lib.hid (C3.out.past HV.out (show Fr _ w3 w4 from ⟨hf4.os, hf4.tape, hf4.output, hf4.size, hf4.same⟩)); have O4 := Lib.hid (And.intro ho4 (And.intro hf4 hg4)); clear ho4 hf4 hg4; obtain ⟨_, _, k3⟩ := blk3 P4.out.1; obtain ⟨_, _, j2, j3, j4, j5⟩ := blk6 (P4.out.2.1 x HX.out); obtain ⟨w5, r5, hm5, hf5⟩ := run_map_set keyLaw_kind Try.underlying51 P4.out.2.2 x.kd v4; have M5 := Lib.hid (And.intro hm5 hf5); have R5 := Lib.hid (hf5.at P4.out.1 (P4.out.2.2.ne P4.out.1)); have N5 := Lib.hid (hf5.at (P4.out.2.1 x HX.out) (P4.out.2.2.ne (P4.out.2.1 x HX.out))); clear hm5 hf5; unfold kenc at r5; obtain ⟨_, _, q3⟩ := blk3 R5.out; obtain ⟨_, _, q2, q4, q5, q6⟩ := blk6 N5.out))
  go_wp2
  go_ret
  have HH := removed H.out HF.out HX.out HV.out HR.out.1 HR.out.2 M1.out F1.out M2.out F2.out F3.out O4.out.1 (show Fr _ w3 w4 from ⟨O4.out.2.1.os, O4.out.2.1.tape, O4.out.2.1.output, O4.out.2.1.size, O4.out.2.1.same⟩) O4.out.2.2 M5.out.1 M5.out.2
  exact ⟨rfl, HH⟩
end Go.Proofs.Ytanaicjeheacoaa
