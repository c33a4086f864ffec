/-
  A span is put.
-/
import Derived.Test.YtanaicjeheacoaaPutDone
namespace Go.Proofs.Ytanaicjeheacoaa
open Go.RowKit Go.Deep

/-- the two maps have taken the span in -/
structure Listed (w w1 u4 : World) (s m1 m2 m3 : Nat) (i1 i2 : List (Int × Value)) (i3 : List (Kd × Value)) (L : List It) (x : It) : Prop where
  ids : MapIs ienc u4 m1 (mapSet i1 x.id x.ptr)
  bases : MapIs benc u4 m2 (mapSet i2 x.base x.ptr)
  core : Core u4 s m1 m2 m3 i3 L
  node : u4.heap[x.b]? = some (.cells x.cells 58 (0, 0))
  fr : Fr (fun b => b = m1 ∨ b = m2) w u4

/-- the words of the two maps' entries, one behind the other -/
theorem row_some {w : World} {T n c : Nat} {a : Option Addr} {xs : List Value} (h : w.ownsRow 0 T 1 (.slice a (n + 1) c) (n + 1) xs) : ∃ g, a = some ⟨g, 0, none⟩ := by
  rcases h with ⟨_, ⟨_, hv⟩ | ⟨g, cap, cur, hv, _⟩⟩
  · omega
  · simp only [Value.slice.injEq] at hv; exact ⟨g, hv.1⟩

theorem row_cell {w : World} {T n c g j : Nat} {xs : List Value} (h : w.ownsRow 0 T 1 (.slice (some ⟨g, 0, none⟩) n c) n xs) (hj : j < n) : ∃ v, w.cell? ⟨g, j, none⟩ = some v := by
  obtain ⟨hl, ⟨hv, _⟩ | ⟨g', cap, cur, hv, _, hg, hn, hcm, hcs, htk⟩⟩ := h
  · simp at hv
  · simp only [Value.slice.injEq, Option.some.injEq, Addr.mk.injEq] at hv
    obtain ⟨⟨rfl, _⟩, _, rfl⟩ := hv
    exact ⟨_, by rw [cell_blk hg]; exact Array.getElem?_eq_getElem (by omega)⟩

theorem listed {w : World} {s m1 m2 m3 : Nat} {i1 i2 : List (Int × Value)} {i3 : List (Kd × Value)} {L : List It} (h : Sets w s m1 m2 m3 i1 i2 i3 L) (x : It) (hxb : x.b = w.heap.size) (hI : ∀ y ∈ L, y.id ≠ x.id) (hB : ∀ y ∈ L, y.base ≠ x.base) :
    ∃ st1 st2 u1 u2 u3 u4,
      (Instr.mapEntry 49 (.map (some m1)) (.int .i64 x.id)).run Try.prog (w.alloc (.cells x.cells 58)).drew = .ok (.tuple #[.pointer none, st1]) u1 ∧
      (Instr.entryStore 49 (.map (some m1)) st1 (.pointer (some ⟨x.b, 0, none⟩))).run Try.prog u1 = .ok () u2 ∧
      (Instr.mapEntry 50 (.map (some m2)) (.int .u64 x.base)).run Try.prog u2 = .ok (.tuple #[.pointer none, st2]) u3 ∧
      (Instr.entryStore 50 (.map (some m2)) st2 (.pointer (some ⟨x.b, 0, none⟩))).run Try.prog u3 = .ok () u4 ∧
      (∀ u, u = u1 ∨ u = u2 ∨ u = u3 ∨ u = u4 → u.cell? ⟨s, 0, none⟩ = some (.map (some m1)) ∧ u.cell? ⟨s, 1, none⟩ = some (.map (some m2))) ∧ Listed w (w.alloc (.cells x.cells 58)) u4 s m1 m2 m3 i1 i2 i3 L x := by
  have f0 : Fr (fun _ => False) w (w.alloc (.cells x.cells 58)).drew := ((Fr.refl _ w).alloc _).drew
  have k1 : x.id ∉ i1.map (·.1) := fun hm => by
    obtain ⟨⟨k, v⟩, hp, he⟩ := List.mem_map.1 hm
    obtain ⟨y, hy, h1, _⟩ := (h.idsL _ _).1 hp
    exact hI y hy (h1.trans he)
  have k2 : x.base ∉ i2.map (·.1) := fun hm => by
    obtain ⟨⟨k, v⟩, hp, he⟩ := List.mem_map.1 hm
    obtain ⟨y, hy, h1, _⟩ := (h.basesL _ _).1 hp
    exact hB y hy (h1.trans he)
  have hn0 : (w.alloc (.cells x.cells 58)).drew.heap[x.b]? = some (.cells x.cells 58 (0, 0)) := by
    show (w.alloc _).heap[_]? = _; rw [hxb, heap_alloc, if_pos rfl]
  have C0 := h.core.quiet f0
  have I0 := h.ids.fr f0 (fun x => x)
  have B0 := h.bases.fr f0 (fun x => x)
  obtain ⟨st1, u1, r1, e1, f1⟩ := run_map_entry_new keyLaw_i Try.underlying49 I0 x.id k1 (.pointer none) (zero_item _)
  have hm1s : s ≠ m1 := h.ids.ne h.core.root
  have hm2s : s ≠ m2 := h.bases.ne h.core.root
  have C1 := C0.keep_map I0 h.sepM.2.1 f1
  have N1 := f1.at hn0 (I0.ne hn0)
  have B1 := B0.fr f1 (fun e => h.sepM.1 e.symm)
  obtain ⟨u2, r2, e2, f2⟩ := run_entry_store 49 e1 k1 (.pointer (some ⟨x.b, 0, none⟩))
  have C2 := (C0.keep_map I0 h.sepM.2.1 (f1.trans f2 (fun _ _ h => h)))
  have N2 := (f1.trans f2 (fun _ _ h => h)).at hn0 (I0.ne hn0)
  have B2 := B1.fr f2 (fun e => h.sepM.1 e.symm)
  obtain ⟨st2, u3, r3, e3, f3⟩ := run_map_entry_new keyLaw_b Try.underlying50 B2 x.base k2 (.pointer none) (zero_item _)
  have C3 := C2.keep_map B2 h.sepM.2.2 f3
  obtain ⟨u4, r4, e4, f4⟩ := run_entry_store 50 e3 k2 (.pointer (some ⟨x.b, 0, none⟩))
  have f34 := f3.trans f4 (fun _ _ h => h)
  have C4 := C2.keep_map B2 h.sepM.2.2 f34
  refine ⟨st1, st2, u1, u2, u3, u4, r1, r2, r3, r4, ?_, ⟨e2.fr f34 h.sepM.1, e4, C4, f34.at N2 (B2.ne N2), ?_⟩⟩
  · rintro u (rfl | rfl | rfl | rfl)
    · exact ⟨(blk3 C1.root).1, (blk3 C1.root).2.1⟩
    · exact ⟨(blk3 C2.root).1, (blk3 C2.root).2.1⟩
    · exact ⟨(blk3 C3.root).1, (blk3 C3.root).2.1⟩
    · exact ⟨(blk3 C4.root).1, (blk3 C4.root).2.1⟩
  · exact ((f0.mono (fun _ _ => False.elim)).trans (f1.trans f2 (fun _ _ h => h)) (fun _ _ h => .inl h)).trans f34 (fun _ _ h => .inr h)

set_option maxRecDepth 100000 in
set_option maxHeartbeats 8000000 in
theorem put_ok {s : Nat} {L : List It} {F : Nat → Prop} (w : World) (h0 : Is w s L F) (id base cls : Int) (np fu sw : Bool) (hid : 1 ≤ id) (hc : 0 ≤ cls ∧ cls < 68) (hI : ∀ y ∈ L, y.id ≠ id) (hB : ∀ y ∈ L, y.base ≠ base) (hL : L.length ≤ 1000000) :
    Calls Try.prog 8 #[.pointer (some ⟨s, 0, none⟩), .int .i64 id, .int .u64 base, .int .i64 cls, .bool np, .bool fu, .bool sw] w fun e w' => e = .returned (.int .i64 0) ∧
      Is w' s (L ++ [⟨w.heap.size, id, base, (cls, np, fu, sw)⟩]) (fun b => F b ∨ w.heap.size ≤ b) ∧ Fr F w w' := by
  obtain ⟨m1, m2, m3, i1, i2, i3, H0, hF⟩ := h0
  have H := Lib.hid H0
  have HF := Lib.hid hF
  obtain ⟨c1, c2, c3⟩ := blk3 H0.core.root
  have n1 : ¬ id < 1 := by omega
  have n2 : ¬ cls < 0 := by omega
  have n3 : ¬ 68 ≤ cls := by omega
  have look := run_id (k := id) H0.ids (H0.find_none hI)
  have look2 := run_base (k := base) H0.bases (H0.at_none hB)
  have hsl := lt_blk H0.core.root
  obtain ⟨st1, st2, u1, u2, u3, u4, r1, r2, r3, r4, hc4, hl⟩ := listed H0 ⟨w.heap.size, id, base, (cls, np, fu, sw)⟩ rfl hI hB
  have LS := Lib.hid hl
  obtain ⟨a1, a2⟩ := hc4 u1 (.inl rfl)
  obtain ⟨b1, b2⟩ := hc4 u2 (.inr (.inl rfl))
  obtain ⟨d1, d2⟩ := hc4 u3 (.inr (.inr (.inl rfl)))
  obtain ⟨e1, e2⟩ := hc4 u4 (.inr (.inr (.inr rfl)))
  have HI := Lib.hid (And.intro hI hB)
  clear H0 hF hid hc hI hB hl hc4 c3
  simp only at r1 r2 r3 r4
  go_enter Try.func8, Try.ntmps8
  go_wp2_with fail
  unfold It.cells at r1
  go_region
  clear c1 c2 look look2 a1 a2 b1 b2 d1 d2 e1 e2 r1 r2 r3 r4 n1 n2 n3
  obtain ⟨x0, x1, x2, x3, x4, x5⟩ := blk6 LS.out.node
  have c3 := (blk3 LS.out.core.root).2.2
  obtain ⟨r, a, c, hv, hr, ho⟩ := LS.out.core.look (cls, np, fu, sw)
  have hrl : r.length ≤ 1000000 := Nat.le_trans (by rw [row_len hr H.out.core.ndb]; exact List.length_filter_le _ _) hL
  have hp := place_any u4 LS.out.core (cls, np, fu, sw) base r a c hv hr ho hrl
  obtain ⟨pre, post, hsp, hpos, hput⟩ := RowOf.put (x := ⟨w.heap.size, id, base, (cls, np, fu, sw)⟩) hr HI.out.2
  rw [show pos r base = pre.length from hpos] at hp
  have hj : pre.length ≤ r.length := by rw [hsp]; simp
  obtain ⟨j, hjd⟩ : ∃ j, j = pre.length := ⟨_, rfl⟩
  rw [← hjd] at hp hj
  have PD := Lib.hid (And.intro hjd (And.intro hsp hput))
  clear hjd hsp hpos hput
  unfold kenc at hp
  have HP := Lib.hid hp
  have HV := Lib.hid hv
  have HR := Lib.hid hr
  have HO := Lib.hid ho
  clear hp hv hr ho
  simp only at x0 x1 x2 x3 x4 x5
  go_wp2_with (go_at_call 17; refine HP.out.mono ?_; rintro e w5 ⟨rfl, f5⟩; have F5 := Lib.hid f5; clear f5)
  clear x0 x1 x2 x3 x4 x5 c3
  have C5 := Lib.hid (LS.out.core.quiet F5.out)
  have N5 := Lib.hid (F5.out.at LS.out.node (fun x => x))
  have O5 := Lib.hid (ownsRow_keep HO.out F5.out (fun _ _ x => x))
  obtain ⟨x0, x1, x2, x3, x4, x5⟩ := blk6 N5.out
  simp only at x0 x1 x2 x3 x4 x5
  have c3 := (blk3 C5.out.root).2.2
  have look := run_row (w := w5.drew) C5.out.sets HV.out
  have fa : Fr (fun _ => False) w5 (w5.alloc (.cells #[.pointer none] 54)).drew := ((Fr.refl _ w5).alloc _).drew
  have look2 := run_row (C5.out.sets.fr fa (fun x => x)) HV.out
  unfold kenc at look look2
  simp only at look look2
  obtain ⟨i0, hi, hz0, hz1, hz2⟩ := info_parts info_item
  obtain ⟨v6, w6, r6, o6, f6, g6⟩ := run_append_row (P := Try.prog) (w := (w5.alloc (.cells #[.pointer none] 54)).drew) 60 60 54 i0 _ 1 8 Try.underlying60 hi hz0 hz1 hz2 (by rfl) (by decide)
    (.slice a r.length c) r.length (r.map It.ptr) (ownsRow_keep O5.out fa (fun _ _ x => x)) (.slice (some ⟨w5.heap.size, 0, none⟩) 1 1) 1 [.pointer none]
    (Rd.new (w := (w5.alloc (.cells #[.pointer none] 54)).drew) (t := 54) (vs := [.pointer none]) (by show (w5.alloc _).heap[_]? = _; rw [heap_alloc, if_pos rfl]) 1 1 rfl) (by simp [Value.oneCell']) (by simp only [maxLen]; omega) (by omega)
  obtain ⟨a6, c6, rfl⟩ := ownsRow_form o6
  have G6 := Lib.hid (And.intro f6 g6)
  have O6 := Lib.hid o6
  have FA := Lib.hid fa
  have y3 := cell_through fa c3 (fun x => x)
  have y0 := cell_through fa x2 (fun x => x)
  have y1 := cell_through fa x3 (fun x => x)
  have y2 := cell_through fa x4 (fun x => x)
  have y4 := cell_through fa x5 (fun x => x)
  have hs5 := lt_blk C5.out.root
  have hx5 := lt_blk N5.out
  simp only at hx5
  have P6 := Lib.hid ((C5.out.quiet fa).past HV.out (n' := r.length) f6)
  have hown : ∀ g, (Value.slice a r.length c).ownBlock = some g → g < w.heap.size := fun g hg => by
    obtain ⟨r', _, ho'⟩ := H.out.core.row _ _ (H.out.core.own HV.out hg)
    obtain ⟨cur, hc⟩ := ownsRow_blk ho' hg
    exact lt_blk hc
  have hown := Lib.hid hown
  have N6 := Lib.hid (f6.at (fa.at N5.out (fun x => x)) (fun h => by have := hown.out _ h.symm; simp only at this; omega))
  obtain ⟨z0, z1, z2, z3, z4, z5⟩ := blk6 N6.out
  have t3 := (blk3 P6.out.1).2.2
  simp only at z0 z1 z2 z3 z4 z5
  clear f6 g6 o6 fa x0 x1 z0 z1
  go_wp2_with fail
  go_region_held3 (fun w' => w'.cell? ⟨s, 2, none⟩ = some (.map (some m3)) ∧ w'.cell? ⟨w.heap.size, 2, none⟩ = some (.int .i64 cls) ∧ w'.cell? ⟨w.heap.size, 3, none⟩ = some (.bool np) ∧ w'.cell? ⟨w.heap.size, 4, none⟩ = some (.bool fu) ∧ w'.cell? ⟨w.heap.size, 5, none⟩ = some (.bool sw)) (go_keep) ((refine step_plain (by rfl) (wp_append_row _ _ 60 (by rfl) (by rfl) (by rfl) r6 ?_)))
  all_goals (
    clear look look2 r6 c3 x2 x3 x4 x5 y0 y1 y2 y3 y4
    obtain ⟨g, rfl⟩ := row_some O6.out
    obtain ⟨w7, r7, o7, f7⟩ := run_copy_shift (P := Try.prog) (w := w6.drew) 60 3 54 Try.underlying60 (by rw [hi]; exact congrArg some hz1) O6.out.drew (j := j) (by omega) (fun v hv => by
      rcases List.mem_append.1 hv with hv | hv
      · obtain ⟨y, _, rfl⟩ := List.mem_map.1 hv; rfl
      · simp at hv; subst hv; rfl)
    have hcap := ownsRow_cap O6.out
    have s1 := run_from 60 54 i0 Try.underlying60 hi 1 hz1 (some ⟨g, 0, none⟩) (r.length + 1) c6 .i64 (j + 1) (by omega) hcap
    have s2 := run_from 60 54 i0 Try.underlying60 hi 1 hz1 (some ⟨g, 0, none⟩) (r.length + 1) c6 .i64 j (by omega) hcap
    rw [Int.natCast_add, Int.natCast_one] at s1
    generalize sliced (some ⟨g, 0, none⟩) (j + 1) (r.length + 1) c6 1 = sv1 at s1 r7
    generalize sliced (some ⟨g, 0, none⟩) j (r.length + 1) c6 1 = sv2 at s2 r7
    have hA4 : (-9223372036854775808 : Int) ≤ (j : Int) + 1 ∧ (j : Int) + 1 ≤ 9223372036854775807 := by omega
    have hw : IntKind.i64.wrap ((j : Int) + 1) = (j : Int) + 1 := IntWalk.i64_in _ hA4
    clear hA4 hcap
    have O7 := Lib.hid (And.intro o7 f7)
    clear o7 f7
    go_wp2_with fail
    go_region_held3 (fun w' => True) (trivial) ((refine step_plain (by rfl) (wp_copy_run _ _ 60 (by rfl) (by rfl) (by rfl) r7 ?_)))
    clear r7 s1 s2 hw
    have hg : g ≠ s ∧ g ≠ w.heap.size ∧ g ≠ m3 := by
      rcases G6.out.2 g rfl with h1 | h1
      · have hk := H.out.core.own HV.out h1
        obtain ⟨r', _, ho'⟩ := H.out.core.row _ _ hk
        obtain ⟨cur, hc⟩ := ownsRow_blk ho' h1
        exact ⟨(H.out.core.sepR _ _ g hk h1).1, by have := lt_blk hc; omega, H.out.core.sets.ne hc⟩
      · have h2 := C5.out.sets.lt
        have h3 : (w5.alloc (.cells #[.pointer none] 54)).drew.heap.size = w5.heap.size + 1 := by simp
        rw [h3] at h1
        exact ⟨by omega, by omega, by omega⟩
    have HG := Lib.hid hg
    clear hg
    obtain ⟨cur, hcur⟩ := ownsRow_blk O7.out.1 (g := g) rfl
    obtain ⟨vv, hcell⟩ := row_cell O7.out.1 (j := j) (by omega)
    have hfz := free_blk hcur j
    have f8 : Fr (fun b => b = g) w6 (w7.setCell ⟨g, j, none⟩ (.pointer (some ⟨w.heap.size, 0, none⟩))) := ((Fr.refl _ w6).drew.trans O7.out.2 (fun _ _ h => h)).setCell ⟨g, j, none⟩ _ (.inl rfl)
    have R8 := Lib.hid (f8.at P6.out.1 (fun h => HG.out.1 h.symm))
    have N8 := Lib.hid (f8.at N6.out (fun h => HG.out.2.1 h.symm))
    have M8 := P6.out.2.2.fr f8 (fun h => HG.out.2.2 h.symm)
    have O8 := Lib.hid (ownsRow_set O7.out.1 (j := j) (by omega) (.pointer (some ⟨w.heap.size, 0, none⟩)))
    obtain ⟨w9, r9, hm9, f9⟩ := run_map_set (w := (w7.setCell ⟨g, j, none⟩ (.pointer (some ⟨w.heap.size, 0, none⟩))).drew) keyLaw_kind Try.underlying51 M8 (cls, np, fu, sw) (.slice (some ⟨g, 0, none⟩) (r.length + 1) c6)
    unfold kenc at r9
    simp only at r9
    have M9 := Lib.hid (And.intro hm9 f9)
    have F8 := Lib.hid f8
    obtain ⟨q0, q1, q2, q3, q4, q5⟩ := blk6 N8.out
    have q6 := (blk3 R8.out).2.2
    simp only at q2 q3 q4 q5
    clear hm9 f9 f8 M8 hcur q0 q1 z2 z3 z4 z5 t3
    go_wp2_with fail
    go_region
    all_goals (
      go_wp2
      go_ret
      have e8 := PD.out.1
      have o8 := O8.out
      rw [e8] at o8 F8
      refine ⟨rfl, put_done (x := ⟨w.heap.size, id, base, (cls, np, fu, sw)⟩) (pre := pre) (post := post) (w8 := w7.setCell ⟨g, pre.length, none⟩ (.pointer (some ⟨w.heap.size, 0, none⟩))) H.out HF.out rfl HI.out.1 HI.out.2 HV.out PD.out.2.2 PD.out.2.1 LS.out.ids LS.out.bases LS.out.fr F5.out FA.out G6.out.1 (G6.out.2 g rfl) F8.out ?_ HG.out.2.1 ?_ M9.out.1 ?_⟩
      · rw [← e8]; exact N8.out
      · exact o8
      · rw [← e8]; exact ⟨M9.out.2.os, M9.out.2.tape, M9.out.2.output, M9.out.2.size, M9.out.2.same⟩))
end Go.Proofs.Ytanaicjeheacoaa
