/-
  Where a span stands in its row.
-/
import Derived.Test.YtanaicjeheacoaaKind
import Derived.BigQuiet
import Derived.Deep.QuietTactic
import Derived.BigRegion
import Derived.Deep.CutBlock
import Derived.Deep.DeepCutAuto
namespace Go.Proofs.Ytanaicjeheacoaa
open Go.RowKit Go.Deep

theorem Core.look {w : World} {s m1 m2 m3 : Nat} {i3 : List (Kd × Value)} {L : List It} (h : Core w s m1 m2 m3 i3 L) (k : Kd) :
    ∃ r a c, (mapGet i3 k).getD (.slice none 0 0) = .slice a r.length c ∧ RowOf L k r ∧ w.ownsRow 0 54 1 (.slice a r.length c) r.length (r.map It.ptr) := by
  cases hg : mapGet i3 k with
  | none =>
    refine ⟨[], none, 0, rfl, ⟨List.Pairwise.nil, fun x => ?_⟩, World.ownsRow_nil _ _ _ _⟩
    constructor
    · intro hx; simp at hx
    · rintro ⟨hx, rfl⟩
      exact absurd (h.all x hx) (mapGet_none.1 hg)
  | some v =>
    have hm := (mapGet_some h.sets.nodup).1 hg
    obtain ⟨r, hr, ho⟩ := h.row k v hm
    obtain ⟨a, c, rfl⟩ := ownsRow_form ho
    exact ⟨r, a, c, rfl, hr, ho⟩

/-- how many of a row stand below a base -/
def pos (r : List It) (z : Int) : Nat := (r.takeWhile (fun x => decide (x.base < z))).length

theorem pos_le (r : List It) (z : Int) : pos r z ≤ r.length := (List.takeWhile_sublist _).length_le

theorem pos_of {r : List It} {z : Int} {j : Nat} (hj : j ≤ r.length) (h1 : ∀ i x, i < j → r[i]? = some x → x.base < z) (h2 : ∀ i x, j ≤ i → r[i]? = some x → z ≤ x.base) : pos r z = j := by
  unfold pos
  induction r generalizing j with
  | nil => simp at hj; subst hj; rfl
  | cons x r ih =>
    cases j with
    | zero =>
      have := h2 0 x (Nat.le_refl _) rfl
      rw [List.takeWhile_cons_of_neg (by simp; omega)]; rfl
    | succ j =>
      have := h1 0 x (by omega) rfl
      rw [List.takeWhile_cons_of_pos (by simpa using this), List.length_cons, ih (j := j) (by simpa using hj) (fun i y hi hy => h1 (i + 1) y (by omega) (by simpa using hy)) (fun i y hi hy => h2 (i + 1) y (by omega) (by simpa using hy))]

set_option maxHeartbeats 1000000 in
theorem place_at (l z : Nat) (i : Nat) (r : List It) (a : Option Addr) (c : Nat) (bs : Int) (x : It) (w : World) (hl : w.cell? ⟨l, 0, none⟩ = some (.slice a r.length c)) (hz : w.cell? ⟨z, 0, none⟩ = some (.int .u64 bs))
    (hrd : Rd w 1 (.slice a r.length c) r.length (r.map It.ptr)) (hi : r[i]? = some x) (hb : w.cell? ⟨x.b, 1, none⟩ = some (.int .u64 x.base)) :
    Calls Try.prog 24 #[.int .i64 i, .pointer (some ⟨l, 0, none⟩), .pointer (some ⟨z, 0, none⟩)] w fun e w' => e = .returned (.bool (decide (bs ≤ x.base))) ∧ ∃ q, w' = w.drewN q := by
  obtain ⟨a', c', hv, _, _, _, hx⟩ := hrd
  simp only [Value.slice.injEq] at hv
  obtain ⟨rfl, _, rfl⟩ := hv
  obtain ⟨ad, rfl, hc⟩ := hx i x.ptr (by rw [List.getElem?_map, hi]; rfl)
  have hlt : i < r.length := (List.getElem?_eq_some_iff.1 hi).1
  unfold It.ptr at hc
  clear hx hi
  go_enter Try.func24, Try.ntmps24
  go_wp2_with fail
  go_quiet (fail)
  go_wp2
  go_ret
  exact ⟨rfl, _, rfl⟩

theorem zero_row (w : World) : (zeroValue 60).run Try.prog w = .ok (.slice none 0 0) w := by
  have h : (Try.prog.info? 60).map (·.zero) = some (some (.slice none 0 0)) := by kernel_rfl
  cases hi : Try.prog.info? 60 with
  | none => rw [hi] at h; simp at h
  | some i =>
    rw [hi] at h
    simp only [Option.map_some, Option.some.injEq] at h
    simp [zeroValue, run_typeInfo w hi, h, Sem.run_bind, Result.andThen]

theorem run_row {w : World} {b : Nat} {m : List (Kd × Value)} {k : Kd} {v : Value} (h : MapIs kenc w b m) (hv : (mapGet m k).getD (.slice none 0 0) = v) :
    (Instr.lookup 51 (.map (some b)) (kenc k) false).run Try.prog w = .ok v w := by
  have := run_map_lookup keyLaw_kind Try.underlying51 h k (.slice none 0 0) (zero_row w) false
  simp only [hv, Bool.false_eq_true, if_false] at this
  exact this

theorem boxed (w : World) (k1 : Int) (k2 k3 k4 : Bool) (bs : Int) : Fr (fun _ => False) w ((w.alloc (.cells #[.int .i64 k1, .bool k2, .bool k3, .bool k4] 56)).alloc (.cells #[.int .u64 bs] 26)) ∧
    ((w.alloc (.cells #[.int .i64 k1, .bool k2, .bool k3, .bool k4] 56)).alloc (.cells #[.int .u64 bs] 26)).cell? ⟨w.heap.size, 0, none⟩ = some (.int .i64 k1) ∧
    ((w.alloc (.cells #[.int .i64 k1, .bool k2, .bool k3, .bool k4] 56)).alloc (.cells #[.int .u64 bs] 26)).cell? ⟨w.heap.size, 1, none⟩ = some (.bool k2) ∧
    ((w.alloc (.cells #[.int .i64 k1, .bool k2, .bool k3, .bool k4] 56)).alloc (.cells #[.int .u64 bs] 26)).cell? ⟨w.heap.size, 2, none⟩ = some (.bool k3) ∧
    ((w.alloc (.cells #[.int .i64 k1, .bool k2, .bool k3, .bool k4] 56)).alloc (.cells #[.int .u64 bs] 26)).cell? ⟨w.heap.size, 3, none⟩ = some (.bool k4) ∧
    ((w.alloc (.cells #[.int .i64 k1, .bool k2, .bool k3, .bool k4] 56)).alloc (.cells #[.int .u64 bs] 26)).cell? ⟨w.heap.size + 1, 0, none⟩ = some (.int .u64 bs) ∧
    ((w.alloc (.cells #[.int .i64 k1, .bool k2, .bool k3, .bool k4] 56)).alloc (.cells #[.int .u64 bs] 26)).heap.size = w.heap.size + 2 := by
  obtain ⟨h0, h1, h2, h3⟩ := blk4 (w := (w.alloc (.cells #[.int .i64 k1, .bool k2, .bool k3, .bool k4] 56)).alloc (.cells #[.int .u64 bs] 26)) (b := w.heap.size) (by rw [heap_alloc, if_neg (by simp), heap_alloc, if_pos rfl])
  exact ⟨((Fr.refl _ w).alloc _).alloc _, h0, h1, h2, h3, cell_blk (c := #[.int .u64 bs]) (by rw [heap_alloc, if_pos (by simp)]) 0, by simp⟩


/-- is the base of the i-th of a row not below z? -/
def notBelow (r : List It) (z : Int) (i : Nat) : Bool := match r[i]? with
  | some x => decide (z ≤ x.base)
  | none => true

theorem searched {s m1 m2 m3 n : Nat} {i3 : List (Kd × Value)} {L : List It} {w wx : World} (fr : Fr (fun _ => False) w wx) (h : Core w s m1 m2 m3 i3 L) {k : Kd} {bs : Int} {r : List It} {a : Option Addr} {c : Nat}
    (hr : RowOf L k r) (ho : w.ownsRow 0 54 1 (.slice a n c) r.length (r.map It.ptr)) (zc : wx.cell? ⟨w.heap.size + 1, 0, none⟩ = some (.int .u64 bs)) (hsz : wx.heap.size = w.heap.size + 2) (hn : r.length ≤ 1000000) :
    Calls Try.prog 23 #[.int .i64 r.length, .func (.func 24) #[] #[.pointer (some ⟨w.heap.size + 2, 0, none⟩), .pointer (some ⟨w.heap.size + 1, 0, none⟩)]]
      (wx.alloc (.cells #[.slice a n c] 60)).drew fun e w' => ∃ (j q : Nat), e = .returned (.int .i64 j) ∧ w' = (wx.alloc (.cells #[.slice a n c] 60)).drew.drewN q ∧ j ≤ r.length ∧ (∀ i, i < j → notBelow r bs i = false) ∧ (∀ i, j ≤ i → i < r.length → notBelow r bs i = true) := by
  obtain ⟨a', c', hv⟩ := ownsRow_form ho
  simp only [Value.slice.injEq] at hv
  obtain ⟨rfl, rfl, rfl⟩ := hv
  have fz : Fr (fun _ => False) wx (wx.alloc (.cells #[.slice a r.length c] 60)).drew := ((Fr.refl _ wx).alloc _).drew
  have ff := fr.trans fz (fun _ _ x => x)
  refine search_any _ (fun args w => by simp [callFunc, Try.func24, Try.f24]) (by omega) (fun m i hi => ?_) (fun i j hij hj hi => ?_)
  · obtain ⟨x, hx⟩ : ∃ x, r[i]? = some x := ⟨_, List.getElem?_eq_getElem hi⟩
    have hm : x ∈ L := ((hr.mem x).1 (List.mem_of_getElem? hx)).1
    have := place_at (w.heap.size + 2) (w.heap.size + 1) i r a c bs x ((wx.alloc (.cells #[.slice a r.length c] 60)).drew.drewN m)
      (cell_blk (w := (wx.alloc (.cells #[.slice a r.length c] 60))) (c := #[.slice a r.length c]) (by rw [heap_alloc, if_pos hsz.symm]) 0) (cell_through (fz.drewN m) zc (fun x => x)) ((ownsRow_rd ho).fr (S := fun _ => False) (ff.drewN m) (fun _ _ x => x)) hx
      (cell_blk (w := (wx.alloc (.cells #[.slice a r.length c] 60))) (c := x.cells) (ff.at (h.node x hm) (fun x => x)) 1)
    refine this.mono fun e w' ⟨he, q, hq⟩ => ⟨?_, m + q, by rw [hq, World.drewN_drewN]⟩
    rw [he]; simp [notBelow, hx]
  · obtain ⟨x, hx⟩ : ∃ x, r[i]? = some x := ⟨_, List.getElem?_eq_getElem (by omega)⟩
    obtain ⟨y, hy⟩ : ∃ y, r[j]? = some y := ⟨_, List.getElem?_eq_getElem hj⟩
    simp only [notBelow, hx, hy, decide_eq_true_eq] at hi ⊢
    by_cases he : i = j
    · subst he; rw [hx] at hy; cases hy; exact hi
    · have h1 := List.pairwise_iff_getElem.1 hr.ord i j (by omega) hj (by omega)
      rw [(List.getElem?_eq_some_iff.1 hx).2, (List.getElem?_eq_some_iff.1 hy).2] at h1
      omega

set_option maxHeartbeats 2000000 in
theorem place_any {s m1 m2 m3 : Nat} {i3 : List (Kd × Value)} {L : List It} (w : World) (h : Core w s m1 m2 m3 i3 L) (k : Kd) (bs : Int) (r : List It) (a : Option Addr) (c : Nat)
    (hv : (mapGet i3 k).getD (.slice none 0 0) = .slice a r.length c) (hr : RowOf L k r) (ho : w.ownsRow 0 54 1 (.slice a r.length c) r.length (r.map It.ptr)) (hn : r.length ≤ 1000000) :
    Calls Try.prog 17 #[.pointer (some ⟨s, 0, none⟩), kenc k, .int .u64 bs] w fun e w' => e = .returned (.int .i64 (pos r bs)) ∧ Fr (fun _ => False) w w' := by
  obtain ⟨k1, k2, k3, k4⟩ := k
  have fb := Lib.hid (boxed w k1 k2 k3 k4 bs)
  have H := Lib.hid (And.intro h (And.intro hr (And.intro ho hv)))
  have hs := lt_blk h.root
  clear h hr ho hv
  unfold kenc at *
  go_enter Try.func17, Try.ntmps17
  go_wp2_with fail
  obtain ⟨fr, kc0, kc1, kc2, kc3, zc, hsz⟩ := fb.out
  generalize (w.alloc (.cells #[.int .i64 k1, .bool k2, .bool k3, .bool k4] 56)).alloc (.cells #[.int .u64 bs] 26) = wx at *
  clear fb
  have hkb : w.heap.size < wx.heap.size := by omega
  have hzb : w.heap.size + 1 < wx.heap.size := by omega
  have hsx : s < wx.heap.size := by omega
  have c3 : wx.cell? ⟨s, 2, none⟩ = some (.map (some m3)) := (blk3 (fr.at H.out.1.root (fun x => x))).2.2
  have fz : Fr (fun _ => False) wx (wx.alloc (.cells #[.slice none 0 0] 60)).drew := ((Fr.refl _ wx).alloc _).drew
  have look := run_row (k := (k1, k2, k3, k4)) ((H.out.1.sets.frk fr (fun x => x)).frk fz (fun x => x)) H.out.2.2.2
  have d0 : (wx.alloc (.cells #[.slice none 0 0] 60)).drew.cell? ⟨s, 2, none⟩ = some (.map (some m3)) := cell_through fz c3 (fun x => x)
  have d1 : (wx.alloc (.cells #[.slice none 0 0] 60)).drew.cell? ⟨w.heap.size, 0, none⟩ = some (.int .i64 k1) := cell_through fz kc0 (fun x => x)
  have d2 : (wx.alloc (.cells #[.slice none 0 0] 60)).drew.cell? ⟨w.heap.size, 1, none⟩ = some (.bool k2) := cell_through fz kc1 (fun x => x)
  have d3 : (wx.alloc (.cells #[.slice none 0 0] 60)).drew.cell? ⟨w.heap.size, 2, none⟩ = some (.bool k3) := cell_through fz kc2 (fun x => x)
  have d4 : (wx.alloc (.cells #[.slice none 0 0] 60)).drew.cell? ⟨w.heap.size, 3, none⟩ = some (.bool k4) := cell_through fz kc3 (fun x => x)
  have look1 := run_row (w := wx.drew) (k := (k1, k2, k3, k4)) (H.out.1.sets.frk fr.drew (fun x => x)) H.out.2.2.2
  unfold kenc at look look1
  simp only at look look1
  have FZ := Lib.hid fz
  clear fz
  have hsz := Lib.hid hsz
  have FR := Lib.hid fr
  clear fr
  have hse := Lib.hid (searched (n := r.length) FR.out H.out.1 H.out.2.1 H.out.2.2.1 zc hsz.out hn)
  clear hkb hzb
  go_wp2_with fail
  go_region
  all_goals (
    go_wp2_with (go_at_call 23; refine hse.out.mono ?_; rintro e w5 ⟨j, q, rfl, rfl, hj, hp1, hp2⟩)
    go_ret
    exact ⟨by rw [pos_of hj (fun i x hi hx => by have := hp1 i hi; simpa [notBelow, hx] using this) (fun i x hi hx => by have := hp2 i hi (List.getElem?_eq_some_iff.1 hx).1; simpa [notBelow, hx] using this)]; rfl, (FR.out.trans ((Fr.refl (fun _ => False) wx).alloc _) (fun _ _ x => x)).drewN (1 + q)⟩)
end Go.Proofs.Ytanaicjeheacoaa
