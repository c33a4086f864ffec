/-
  How many spans are swept, or not.
-/
import Derived.Test.YtanaicjeheacoaaPlace
namespace Go.Proofs.Ytanaicjeheacoaa
open Go.RowKit Go.Deep

/-- those of some kinds, swept or not -/
def cnt (L : List It) (b : Bool) (D : List Kd) : Nat := (L.filter (fun x => decide (x.kd ∈ D) && (x.kd.2.2.2 == b))).length

theorem nodup_of {α β : Type} {f : α → β} {L : List α} (h : (L.map f).Nodup) : L.Nodup := by
  rw [List.Nodup, List.pairwise_map] at h
  exact h.imp (fun hxy e => hxy (by rw [e]))

theorem row_len {L : List It} {k : Kd} {r : List It} (h : RowOf L k r) (hL : (L.map (·.b)).Nodup) : r.length = (L.filter (fun x => decide (x.kd = k))).length := by
  have hLn : L.Nodup := nodup_of hL
  have hr : r.Nodup := h.ord.imp (fun {x y} hxy e => by subst e; omega)
  refine List.Perm.length_eq ((List.perm_ext_iff_of_nodup hr (hLn.sublist List.filter_sublist)).2 fun x => ?_)
  rw [h.mem]; simp

theorem cnt_nil (L : List It) (b : Bool) : cnt L b [] = 0 := by
  unfold cnt; rw [List.filter_eq_nil_iff.2 (fun x _ => by simp)]; rfl

theorem cnt_cons {L : List It} {b : Bool} {D : List Kd} {k : Kd} (hk : k ∉ D) : cnt L b (k :: D) = cnt L b D + (if k.2.2.2 = b then (L.filter (fun x => decide (x.kd = k))).length else 0) := by
  unfold cnt
  induction L with
  | nil => simp
  | cons x L ih =>
    by_cases hx : x.kd = k
    · have hn : x.kd ∉ D := by rw [hx]; exact hk
      by_cases hb : k.2.2.2 = b
      · simp only [hb, if_true] at ih ⊢
        rw [List.filter_cons_of_pos (by simp [hx, hb]), List.filter_cons_of_neg (by simp [hn]), List.filter_cons_of_pos (by simp [hx])]
        simp only [List.length_cons, ih]; omega
      · simp only [hb, if_false] at ih ⊢
        rw [List.filter_cons_of_neg (by simp [hx, hb]), List.filter_cons_of_neg (by simp [hn])]
        exact ih
    · by_cases hD : x.kd ∈ D ∧ x.kd.2.2.2 = b
      · rw [List.filter_cons_of_pos (by simp [hD.1, hD.2]), List.filter_cons_of_pos (by simp [hD.1, hD.2]), List.filter_cons_of_neg (by simpa using hx)]
        simp only [List.length_cons, ih]; omega
      · have h1 : ¬ ((decide (x.kd ∈ k :: D) && (x.kd.2.2.2 == b)) = true) := by simp only [Bool.and_eq_true, decide_eq_true_eq, List.mem_cons, beq_iff_eq]; exact fun ⟨h1, h2⟩ => h1.elim hx (fun h1 => hD ⟨h1, h2⟩)
        have h2 : ¬ ((decide (x.kd ∈ D) && (x.kd.2.2.2 == b)) = true) := by simpa using fun a b => hD ⟨a, b⟩
        rw [List.filter_cons_of_neg (p := fun x : It => decide (x.kd ∈ k :: D) && (x.kd.2.2.2 == b)) h1, List.filter_cons_of_neg (p := fun x : It => decide (x.kd ∈ D) && (x.kd.2.2.2 == b)) h2, List.filter_cons_of_neg (by simpa using hx)]
        exact ih

/-- how many there are -/
def num (L : List It) (b : Bool) : Nat := (L.filter (fun x => x.kd.2.2.2 == b)).length

theorem cnt_all {L : List It} {b : Bool} {D : List Kd} (h : ∀ x ∈ L, x.kd ∈ D) : cnt L b D = num L b := by
  unfold cnt num
  congr 1
  refine List.filter_congr fun x hx => ?_
  simp [h x hx]

theorem cnt_le (L : List It) (b : Bool) (D : List Kd) : cnt L b D ≤ L.length := List.length_filter_le _ _

theorem nodup_le {α : Type} [DecidableEq α] {D K : List α} (hD : D.Nodup) (hK : K.Nodup) (hs : ∀ p ∈ D, p ∈ K) : D.length ≤ K.length := by
  have h : D.Perm (K.filter (fun x => decide (x ∈ D))) := by
    rw [List.perm_ext_iff_of_nodup hD (hK.sublist List.filter_sublist)]
    intro a
    simp only [List.mem_filter, decide_eq_true_eq]
    exact ⟨fun ha => ⟨hs a ha, ha⟩, fun ha => ha.2⟩
  rw [h.length_eq]
  exact List.length_filter_le _ _

/-- where a walk over the kinds stands -/
structure Went (w : World) (s m1 m2 m3 it : Nat) (i3 : List (Kd × Value)) (L : List It) (w0 : World) (D : List Kd) (k : Nat) : Prop where
  iter : Iter kenc w it m3 i3 D
  nd : D.Nodup
  sub : ∀ p ∈ D, p ∈ i3.map (·.1)
  len : D.length + k = i3.length
  fr : Fr (fun _ => False) w0 w

theorem Went.step {w w' : World} {s m1 m2 m3 it : Nat} {i3 : List (Kd × Value)} {L : List It} {w0 : World} {D : List Kd} {k : Nat} {p : Kd × Value} (h : Went w s m1 m2 m3 it i3 L w0 D k) (hit : w0.heap.size ≤ it) (hp : p ∈ i3) (hn : p.1 ∉ D)
    (hi : Iter kenc w' it m3 i3 (p.1 :: D)) (hf : Fr (fun b => b = it) w w') : Went w' s m1 m2 m3 it i3 L w0 (p.1 :: D) (k - 1) ∧ 1 ≤ k := by
  have nd := List.nodup_cons.2 ⟨hn, h.nd⟩
  have sub : ∀ q ∈ p.1 :: D, q ∈ i3.map (·.1) := by
    intro q hq
    rcases List.mem_cons.1 hq with rfl | hq
    · exact List.mem_map.2 ⟨p, hp, rfl⟩
    · exact h.sub q hq
  have hl := nodup_le nd h.iter.map.nodup sub
  have := h.len
  simp only [List.length_cons, List.length_map] at hl
  exact ⟨⟨hi, nd, sub, by simp only [List.length_cons]; omega, h.fr.trans hf (fun b hb he => by omega)⟩, by omega⟩

theorem Went.fr' {w w' : World} {s m1 m2 m3 it : Nat} {i3 : List (Kd × Value)} {L : List It} {w0 : World} {D : List Kd} {k : Nat} (h : Went w s m1 m2 m3 it i3 L w0 D k) (hf : Fr (fun _ => False) w w') : Went w' s m1 m2 m3 it i3 L w0 D k :=
  ⟨h.iter.fr hf (fun x => x) (fun x => x), h.nd, h.sub, h.len, h.fr.trans hf (fun _ _ x => x)⟩

set_option maxHeartbeats 4000000 in
theorem count_any {s m1 m2 m3 : Nat} {i3 : List (Kd × Value)} {L : List It} (w : World) (h : Core w s m1 m2 m3 i3 L) (b : Bool) (hL : L.length ≤ 1000000) :
    Calls Try.prog 14 #[.pointer (some ⟨s, 0, none⟩), .bool b] w fun e w' => e = .returned (.int .i64 (num L b)) ∧ Fr (fun _ => False) w w' := by
  have c3 := (blk3 h.root).2.2
  have hlt := h.sets.lt
  have hm := Lib.hid h.sets
  have H := Lib.hid h
  clear h
  go_enter Try.func14, Try.ntmps14
  go_wp2_with (refine wpList_iter_new (by rfl) Try.underlying51 _ (by rfl) hm.out (by rfl) ?_; intro oo hit; go_simp)
  have hne : w.heap.size ≠ m3 := by omega
  have hlt := Lib.hid hlt
  go_loopg [5] i3.length (fun k n wr => ∃ (c : Nat) (D : List Kd), n = .int .i64 c ∧ Hid (c = cnt L b D ∧ Went wr s m1 m2 m3 w.heap.size i3 L w D k))
  case atStart => exact ⟨0, [], rfl, Lib.hid ⟨(cnt_nil L b).symm, hit, by simp, by simp, by simp, (Fr.refl _ w).alloc oo⟩⟩
  case round =>
    obtain ⟨cc, D, rfl, hD⟩ := hrel
    clear hit
    rcases run_iter_next (P := Try.prog) hD.out.2.iter hne 0 with ⟨hall, hr⟩ | ⟨⟨⟨pk1, pk2, pk3, pk4⟩, pv⟩, hp, hpd, wn, hr, hk1, hk2, hk3⟩
    · have hc : cc = num L b := by
        rw [hD.out.1]
        exact cnt_all (fun x hx => by obtain ⟨p, hp, he⟩ := List.mem_map.1 (H.out.all x hx); rw [← he]; exact hall p hp)
      subst hc
      have F := Lib.hid hD.out.2.fr
      clear hall hD
      go_wp2_with (refine wpList_next_run (by rfl) _ (by rfl) (by rfl) hr ?_; clear hr)
      go_ret
      exact ⟨rfl, F.out⟩
    · obtain ⟨r, hro, how⟩ := H.out.row _ _ hp
      obtain ⟨ra, rc, rfl⟩ := ownsRow_form how
      have hst := Lib.hid (hD.out.2.step (Nat.le_refl _) hp hpd hk1 hk2)
      have hcn := cnt_cons (L := L) (b := b) hpd
      rw [← row_len hro H.out.ndb] at hcn
      have hcl := cnt_le L b ((pk1, pk2, pk3, pk4) :: D)
      simp only at hcn
      have hrl : r.length ≤ 1000000 := Nat.le_trans (by rw [row_len hro H.out.ndb]; exact List.length_filter_le _ _) hL
      have HC := Lib.hid hcn
      clear hp hpd hk1 hk2 hro how hcn
      simp only [kenc] at hr hk3
      by_cases hb : pk4 = b
      · subst hb
        have hcl2 : cc ≤ 1000000 := by rw [hD.out.1]; exact Nat.le_trans (cnt_le _ _ _) hL
        go_wp2_with (first | (refine wpList_next_run (by rfl) _ (by rfl) (by rfl) hr ?_; clear hr) | (refine wpList_entry (by rfl) _ (by rfl) (by rfl) hk3 ?_; clear hk3))
        go_roundg (gk - 1)
        case measure => have := hst.out.2; omega
        case rel =>
          exact ⟨cc + r.length, (pk1, pk2, pk3, pk4) :: D, by go_num, Lib.hid ⟨by rw [HC.out, hD.out.1]; simp, hst.out.1.fr' ((Fr.refl _ wn).alloc _)⟩⟩
      · have hb2 : (pk4 == b) = false := by simpa using hb
        go_wp2_with (first | (refine wpList_next_run (by rfl) _ (by rfl) (by rfl) hr ?_; clear hr) | (refine wpList_entry (by rfl) _ (by rfl) (by rfl) hk3 ?_; clear hk3))
        go_roundg (gk - 1)
        case measure => have := hst.out.2; omega
        case rel =>
          exact ⟨cc, (pk1, pk2, pk3, pk4) :: D, rfl, Lib.hid ⟨by rw [HC.out, hD.out.1, if_neg hb]; simp, hst.out.1.fr' ((Fr.refl _ wn).alloc _)⟩⟩
end Go.Proofs.Ytanaicjeheacoaa
