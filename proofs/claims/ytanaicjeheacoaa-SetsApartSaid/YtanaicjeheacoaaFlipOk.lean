/-
  A new generation: the walk.
-/
import Derived.Test.YtanaicjeheacoaaFlip
namespace Go.Proofs.Ytanaicjeheacoaa
open Go.RowKit Go.Deep

/-- a pointer in a row -/
theorem row_ptr {w : World} {T c : Nat} {a : Option Addr} {r : List It} {j : Nat} {x : It} (h : w.ownsRow 0 T 1 (.slice a r.length c) r.length (r.map It.ptr)) (hj : r[j]? = some x) :
    ∃ g, a = some ⟨g, 0, none⟩ ∧ w.cell? ⟨g, j, none⟩ = some (.pointer (some ⟨x.b, 0, none⟩)) := by
  have hlt : j < r.length := (List.getElem?_eq_some_iff.1 hj).1
  rcases h.2 with ⟨h1, h2⟩ | ⟨g, cap, cur, hv, _⟩
  · simp only [Value.slice.injEq] at h1
    have := h1.2.1; omega
  · simp only [Value.slice.injEq] at hv
    obtain ⟨rfl, _, rfl⟩ := hv
    refine ⟨g, rfl, ?_⟩
    have := World.ownsRow.cells h (by rfl) j x.ptr (by rw [List.getElem?_map, hj]; rfl)
    have hadd : (⟨g, 0, none⟩ : Addr).add j = ⟨g, j, none⟩ := by unfold Addr.add; split <;> simp_all
    rw [hadd] at this
    exact this

theorem turned_cells {w : World} {x : It} {D : List Kd} {bs : List Nat} {k1 : Int} {k2 k3 k4 : Bool} (h : w.heap[x.b]? = some (.cells (half D bs x).cells 58 (0, 0))) (hk : x.kd = (k1, k2, k3, k4)) :
    Fr (fun b => b = x.b) w ((((w.setCell ⟨x.b, 2, none⟩ (.int .i64 k1)).setCell ⟨x.b, 3, none⟩ (.bool k2)).setCell ⟨x.b, 4, none⟩ (.bool k3)).setCell ⟨x.b, 5, none⟩ (.bool false)) ∧
    ((((w.setCell ⟨x.b, 2, none⟩ (.int .i64 k1)).setCell ⟨x.b, 3, none⟩ (.bool k2)).setCell ⟨x.b, 4, none⟩ (.bool k3)).setCell ⟨x.b, 5, none⟩ (.bool false)).heap[x.b]? = some (.cells x.turned.cells 58 (0, 0)) := by
  have e : (half D bs x).id = x.id ∧ (half D bs x).base = x.base := by unfold half; split <;> exact ⟨rfl, rfl⟩
  refine ⟨((((Fr.refl (fun b => b = x.b) w).setCell ⟨x.b, 2, none⟩ _ (.inl rfl)).setCell ⟨x.b, 3, none⟩ _ (.inl rfl)).setCell ⟨x.b, 4, none⟩ _ (.inl rfl)).setCell ⟨x.b, 5, none⟩ _ (.inl rfl), ?_⟩
  rw [heap_setCell_at (heap_setCell_at (heap_setCell_at (heap_setCell_at h)))]
  unfold It.cells
  rw [e.1, e.2]
  simp [It.turned, hk]

set_option maxHeartbeats 8000000 in
theorem flip_ok {s : Nat} {L : List It} {F : Nat → Prop} (w : World) (h0 : Is w s L F) (hL : L.length ≤ 1000000) (hn : num L false = 0) :
    Calls Try.prog 16 #[.pointer (some ⟨s, 0, none⟩)] w fun e w' => e = .returned (.int .i64 0) ∧ Is w' s (L.map It.turned) (fun b => F b ∨ w.heap.size ≤ b) ∧ Fr F w w' := by
  obtain ⟨m1, m2, m3, i1, i2, i3, h, hF⟩ := h0
  have hc := count_any w h.core false hL
  rw [hn] at hc
  have HC := Lib.hid hc
  have H := Lib.hid h
  have HF := Lib.hid hF
  have HS := Lib.hid (swept_all hn)
  clear h hF hc hn
  go_enter Try.func16, Try.ntmps16
  go_wp2_with (first | (go_at_call 14; refine HC.out.mono ?_; rintro e w1 ⟨rfl, f1⟩; have F1 := Lib.hid f1; clear f1; have C1 := Lib.hid (H.out.core.quiet F1.out); have c3 := (blk3 C1.out.root).2.2; have hsl := lt_blk C1.out.root; have M1 := Lib.hid (C1.out.sets.fr (S := fun _ => False) ((Fr.refl _ w1).alloc (.map #[] 0)) (fun x => x))) | (refine wpList_make_map (by rfl) _ (by rfl) ?_) | (refine wpList_iter_new (by rfl) Try.underlying51 _ (by rfl) M1.out (by rfl) ?_; intro oo hit; go_simp))
  have hne : w1.heap.size + 1 ≠ m3 := by have := C1.out.sets.lt; omega
  go_loopg [] i3.length (fun k wr => ∃ (D : List Kd) (t3 : List (Kd × Value)), Hid (Turning w1 wr m3 w1.heap.size (w1.heap.size + 1) i3 t3 L D k))
  case atStart =>
    refine ⟨[], [], Lib.hid ⟨?_, by simp, by simp, by simp, ?_, fun x hx => ?_, by simp, ((Fr.refl _ w1).alloc _).alloc _⟩⟩
    · simpa using hit
    · exact MapIs.new _ (by rw [heap_alloc, if_neg (by simp), heap_alloc, if_pos rfl])
    · have hf : Fr (fun _ => False) w1 ((w1.alloc (.map #[] 0)).alloc oo) := ((Fr.refl _ w1).alloc _).alloc _
      simpa [half] using hf.at (C1.out.node x hx) (fun x => x)
  case round =>
    obtain ⟨D, t3, HT⟩ := hrel
    clear hit
    rcases run_iter_next (P := Try.prog) HT.out.iter hne 0 with ⟨hall, hr⟩ | ⟨⟨⟨pk1, pk2, pk3, pk4⟩, pv⟩, hp, hpd, wn, hr, hk1, hk2, hk3⟩
    · have hrs : wr.heap[s]? = some (.cells #[.map (some m1), .map (some m2), .map (some m3)] 53 (0, 0)) := HT.out.fr.at C1.out.root (fun ⟨x, hx, he⟩ => C1.out.sepS x hx he.symm)
      have q3 := (blk3 hrs).2.2
      have q4 := free_blk hrs 2
      have HR := Lib.hid hrs
      have HA := Lib.hid hall
      clear c3 hrs hall
      go_wp2_with (refine wpList_next_run (by rfl) _ (by rfl) (by rfl) hr ?_; clear hr)
      go_ret
      refine ⟨rfl, flipped H.out HF.out HS.out F1.out HT.out (Nat.le_refl _) HA.out ((Fr.refl _ wr).setCell _ _ (.inl rfl)) ?_⟩
      rw [heap_setCell_at HR.out]
      rfl
    · obtain ⟨r, hro, how⟩ := C1.out.row _ _ hp
      obtain ⟨ra, rc, rfl⟩ := ownsRow_form how
      have hsl1 := lt_blk C1.out.root
      have hb : ∀ x ∈ L, x.b < w1.heap.size := fun x hx => lt_blk (C1.out.node x hx)
      have hit1 : Fr (fun b => b = w1.heap.size + 1) wr wn := hk2
      have M0 := Lib.hid (HT.out.into (r := r) (Nat.le_succ _) (by omega) hb hk1 hk2)
      have HP := Lib.hid (And.intro hp (And.intro hpd (And.intro hro how)))
      have hrl : r.length ≤ 1000000 := Nat.le_trans (by rw [row_len hro C1.out.ndb]; exact List.length_filter_le _ _) hL
      have HB := Lib.hid hb
      have hsz : w1.heap.size ≤ wn.heap.size := M0.out.fr.size
      have HZ := Lib.hid hsz
      clear hp hpd hro how hk1 hk2 hit1 hb hsz
      simp only [kenc] at hr hk3
      go_wp2_with (first | (refine wpList_next_run (by rfl) _ (by rfl) (by rfl) hr ?_; clear hr) | (refine wpList_entry (by rfl) _ (by rfl) (by rfl) hk3 ?_; clear hk3))
      have hwk : (wn.alloc (.cells #[.int .i64 pk1, .bool pk2, .bool pk3, .bool false] 56)).heap[wn.heap.size]? = some (.cells #[.int .i64 pk1, .bool pk2, .bool pk3, .bool false] 56 (0, 0)) := by rw [heap_alloc, if_pos rfl]
      have K0 := Lib.hid hwk
      have M1' := Lib.hid (M0.out.quiet ((Fr.refl _ wn).alloc (.cells #[.int .i64 pk1, .bool pk2, .bool pk3, .bool false] 56)))
      clear hwk M0
      go_loopg [25] r.length (fun k i wi => ∃ j : Nat, i = .int .i64 j ∧ j + k = r.length ∧ Hid (Mid w1 wi m3 w1.heap.size (w1.heap.size + 1) i3 t3 L D (pk1, pk2, pk3, pk4) r j ∧ wi.heap[wn.heap.size]? = some (.cells #[.int .i64 pk1, .bool pk2, .bool pk3, .bool false] 56 (0, 0))))
      case atStart => exact ⟨0, rfl, by simp, Lib.hid ⟨M1'.out, K0.out⟩⟩
      case round =>
        obtain ⟨j, rfl, hj, HM⟩ := hrel
        by_cases hlt : j < r.length
        · obtain ⟨x, hx⟩ : ∃ x, r[j]? = some x := ⟨_, List.getElem?_eq_getElem hlt⟩
          have hxL := (HP.out.2.2.1.mem x).1 (List.mem_of_getElem? hx)
          have o1 := ownsRow_keep HP.out.2.2.2 HM.out.1.fr (fun g hg ⟨y, hy, e⟩ => (C1.out.sepR _ _ g HP.out.1 hg).2 y hy e)
          obtain ⟨g, rfl, e0⟩ := row_ptr o1 hx
          obtain ⟨k0, k1, k2, k3⟩ := blk4 HM.out.2
          have hnode := HM.out.1.node x hxL.1
          have z2 := blk6 hnode
          have f2 := free_blk hnode 2
          have f3 := free_blk hnode 3
          have f4 := free_blk hnode 4
          have f5 := free_blk hnode 5
          have HN := Lib.hid hnode
          clear hnode
          have HX := Lib.hid (And.intro hx hxL)
          have HJ := Lib.hid hj
          clear hx hxL o1 hj
          go_wp2_with fail
          go_roundg (gk - 1)
          case measure => have := HJ.out; omega
          case rel =>
            have := HJ.out
            have ht := turned_cells HN.out HX.out.2.2
            refine ⟨j + 1, by go_num, by omega, Lib.hid ⟨HM.out.1.step C1.out.ndb HP.out.2.2.1 HX.out.1 (fun y hy => ?_) ht.1 ht.2, ht.1.at HM.out.2 ?_⟩⟩
            · have := HB.out y hy
              exact ⟨by omega, by omega, C1.out.sets.ne (C1.out.node y hy)⟩
            · have := HB.out x HX.out.2.1
              have := HZ.out
              intro e; omega
        · have he : j = r.length := by omega
          subst he
          by_cases h0 : 0 < r.length
          · obtain ⟨k0, k1, k2, k3⟩ := blk4 HM.out.2
            obtain ⟨wm, rm, hm1, hm2⟩ := run_map_set (w := wr) keyLaw_kind Try.underlying51 HM.out.1.new (pk1, pk2, pk3, false) (.slice ra r.length rc)
            unfold kenc at rm
            simp only at rm
            have HQ := Lib.hid (And.intro hm1 hm2)
            clear hm1 hm2
            go_wp2_with fail
            have TO := HT.out.out HP.out.1 HP.out.2.1 C1.out.ndb HP.out.2.2.1 HS.out HM.out.1 h0 (by have := C1.out.sets.lt; omega) (by omega) (Nat.le_refl _) HB.out HQ.out.2 HQ.out.1
            go_roundg (i3.length - D.length - 1)
            case measure => exact TO.2
            case rel => exact ⟨_, _, Lib.hid TO.1⟩
          · have hr0 : r = [] := List.eq_nil_of_length_eq_zero (by omega)
            have TO := Lib.hid (HT.out.none HP.out.1 HP.out.2.1 C1.out.ndb (hr0 ▸ HP.out.2.2.1) (w1 := wr) (by have := HM.out.1; rw [hr0] at this; exact this))
            clear hr0
            go_wp2_with fail
            go_roundg (i3.length - D.length - 1)
            case measure => exact TO.out.2
            case rel => exact ⟨_, _, Lib.hid TO.out.1⟩
end Go.Proofs.Ytanaicjeheacoaa
