/-
  Part 13 of what the statement leans on: Sets2, Leaf, One, One2.
-/
import Derived.Test.YtnjaaagiindclaaGreatDoorPk1
import Derived.Test.YtnjaaagiindclaaGreatDoorPk11
import Derived.Test.YtnjaaagiindclaaGreatDoorPk12
import Derived.Deep.LoopGhost
import Derived.Deep.QuietTactic
import Derived.BigRegion
import Derived.Deep.RegionHeld3
import Derived.Deep.RegionWith
/-
  SX: sets as one object: each word.
-/
namespace Go.Proofs.YtnjaaagiindclaaGreatDoor
open Go.RowKit Go.Deep
namespace SX
theorem any_row {L : List It} {p : List Int → Bool} : (L.map itRow).any p = true ↔ ∃ x ∈ L, p (itRow x) = true := by
  rw [List.any_eq_true]
  exact ⟨fun ⟨r, hr, hp⟩ => by obtain ⟨x, hx, rfl⟩ := List.mem_map.1 hr; exact ⟨x, hx, hp⟩, fun ⟨x, hx, hp⟩ => ⟨_, List.mem_map_of_mem hx, hp⟩⟩
theorem filter_row {L : List It} {p : List Int → Bool} : (L.map itRow).filter p = (L.filter fun x => p (itRow x)).map itRow := by rw [List.filter_map]; rfl
theorem idB_iff {id : Int} {x : It} : idB id (itRow x) = true ↔ x.id = id := zB_iff
theorem rel_i (ρ : Ren) (k : IntKind) (n : Int) : SV.Rel ρ (.l k n) (.int k n) := by simp only [SV.Rel]
theorem rel_b (ρ : Ren) : ∀ b : Bool, SV.Rel ρ (if b then .tt else .ff) (.bool b)
  | true => by simp only [if_true, SV.Rel]
  | false => by simp only [Bool.false_eq_true, if_false, SV.Rel]
theorem rel_tup2 {ρ : Ren} {x y : SV} {u v : Value} (h1 : x.Rel ρ u) (h2 : y.Rel ρ v) : SV.Rel ρ (.tup [x, y]) (.tuple #[u, v]) := by
  simp only [SV.Rel]; exact ⟨_, rfl, .cons h1 (.cons h2 .nil)⟩
theorem ok_put : ObjOk Tryz.prog SetsM 226 stPut where
  enter := enter_of Tryz.func226 (bodyOf_eq (by kernel_rfl)) (by kernel_rfl)
  calls := by
    intro l us0 v l' h ρ us hr w g F hm
    unfold stPut at h
    split at h <;> try cases h
    split at h <;> try cases h
    rename_i a1 a2 a3 a4 a5 a6 id base c x y z e1 e2 e3 e4 e5 e6
    simp only [RelL] at hr
    obtain ⟨v1, _, rfl, h1, v2, _, rfl, h2, v3, _, rfl, h3, v4, _, rfl, h4, v5, _, rfl, h5, v6, _, rfl, h6, rfl⟩ := hr
    have := litK_rel e1 h1; have := litK_rel e2 h2; have := litK_rel e3 h3; have := bitB_rel e4 h4; have := bitB_rel e5 h5; have := bitB_rel e6 h6
    subst_vars
    obtain ⟨L, rfl, hM, hlen⟩ := hm
    refine (put_m hM id base c x y z hlen).mono ?_
    rintro e w' ⟨cc, L', rfl, hq⟩
    obtain ⟨⟨F', hM', hst⟩, hp⟩ := hq.out
    have key : v = .l .i64 cc ∧ l' = L'.map itRow ∧ L'.length ≤ 1000000 := by
      have b0 : (ltB id 1 || ltB c 0 || ltB 67 c) = true ↔ (id < 1 ∨ c < 0 ∨ 68 ≤ c) := by
        simp only [Bool.or_eq_true, ltB_iff]; omega
      have b1 : ((L.map itRow).any fun r => idB id r || zB (rget r 1) base) = true ↔ ∃ x ∈ L, x.id = id ∨ x.base = base := by
        rw [any_row]
        simp only [Bool.or_eq_true, idB_iff]
        exact ⟨fun ⟨x, hx, hh⟩ => ⟨x, hx, hh.imp (fun e => e) zB_iff.1⟩, fun ⟨x, hx, hh⟩ => ⟨x, hx, hh.imp (fun e => e) (fun e => zB_iff.2 e)⟩⟩
      rcases hp with ⟨p1, rfl, rfl⟩ | ⟨p1, p2, rfl, rfl⟩ | ⟨p1, p2, p3, rfl, b, rfl⟩
      · rw [if_pos (b0.2 p1)] at h
        injection h with h; injection h with ha hb
        exact ⟨ha.symm, hb.symm, hlen⟩
      · rw [if_neg (fun hh => by have := b0.1 hh; omega), if_pos (b1.2 p2)] at h
        injection h with h; injection h with ha hb
        exact ⟨ha.symm, hb.symm, hlen⟩
      · rw [if_neg (fun hh => by have := b0.1 hh; omega), if_neg (fun hh => by obtain ⟨x, hx, hh | hh⟩ := b1.1 hh; exact p2 x hx hh; exact p3 x hx hh)] at h
        split at h
        next hlt =>
          injection h with h; injection h with ha hb
          refine ⟨ha.symm, by rw [← hb, List.map_append]; rfl, ?_⟩
          simp only [List.length_map, Nat.blt_eq] at hlt
          simp only [List.length_append, List.length_singleton]; omega
        · cases h
    obtain ⟨rfl, rfl, hl'⟩ := key
    exact ⟨_, F', rfl, rel_i _ _ _, ⟨L', rfl, hM', hl'⟩, hst.fr, hst.new⟩
theorem ok_take : ObjOk Tryz.prog SetsM 248 stTake where
  enter := enter_of Tryz.func248 (bodyOf_eq (by kernel_rfl)) (by kernel_rfl)
  calls := by
    intro l us0 v l' h ρ us hr w g F hm
    unfold stTake at h
    split at h <;> try cases h
    split at h <;> try cases h
    rename_i a1 a2 a3 a4 c x y z e1 e2 e3 e4
    simp only [RelL] at hr
    obtain ⟨v1, _, rfl, h1, v2, _, rfl, h2, v3, _, rfl, h3, v4, _, rfl, h4, rfl⟩ := hr
    have := litK_rel e1 h1; have := bitB_rel e2 h2; have := bitB_rel e3 h3; have := bitB_rel e4 h4
    subst_vars
    obtain ⟨L, rfl, hM, hlen⟩ := hm
    refine (take_m hM c x y z hlen).mono ?_
    rintro e w' ⟨id, ok, L', rfl, hqq⟩
    obtain ⟨⟨F', hM', hst⟩, hp⟩ := hqq.out
    have key : v = .tup [.l .i64 id, if ok then .tt else .ff] ∧ l' = L'.map itRow ∧ L'.length ≤ 1000000 := by
      rw [filter_row] at h
      rcases hp with ⟨rfl, rfl, hLL, p1⟩ | ⟨rfl, q, hq, p1, rfl, p2, rfl⟩
      · subst hLL
        have e0 : L'.filter (fun q => kdB c x y z (itRow q)) = [] := List.filter_eq_nil_iff.2 fun q hq hk => p1 q hq (kdB_iff.1 hk)
        rw [e0] at h
        have h' : some ((SV.tup [.l .i64 0, .ff] : SV), L'.map itRow) = some (v, l') := h
        injection h' with h; injection h with ha hb
        exact ⟨ha.symm, hb.symm, hlen⟩
      · cases hlow : low ((L.filter fun q => kdB c x y z (itRow q)).map itRow) with
        | none =>
          have e0 := low_none hlow
          have : q ∈ L.filter (fun q => kdB c x y z (itRow q)) := List.mem_filter.2 ⟨hq, kdB_iff.2 p1⟩
          rw [List.map_eq_nil_iff.1 e0] at this
          cases this
        | some r =>
          obtain ⟨m1, m2⟩ := low_some hlow
          obtain ⟨y', hy', rfl⟩ := List.mem_map.1 m1
          obtain ⟨hyL, hyk⟩ := List.mem_filter.1 hy'
          have l1 := m2 _ (List.mem_map_of_mem (List.mem_filter.2 ⟨hq, kdB_iff.2 p1⟩))
          have l1' : y'.base ≤ q.base := l1
          have l2 := p2 y' hyL (kdB_iff.1 hyk)
          have hyq : y' = q := inj_of_nodup_map hM.is.bases hyL hq (by omega)
          subst hyq
          rw [hlow] at h
          have h' : some ((SV.tup [.l .i64 y'.id, .tt] : SV), (L.map itRow).filter fun q => !idB y'.id q) = some (v, l') := h
          injection h' with h; injection h with ha hb
          refine ⟨ha.symm, ?_, Nat.le_trans (List.length_filter_le _ _) hlen⟩
          rw [← hb, filter_row]
          congr 1
          refine List.filter_congr fun u _ => ?_
          rw [Bool.eq_iff_iff]
          simp only [Bool.not_eq_true', decide_eq_true_eq]
          rw [← Bool.not_eq_true, idB_iff]
    obtain ⟨rfl, rfl, hl'⟩ := key
    exact ⟨_, F', rfl, rel_tup2 (rel_i _ _ _) (rel_b _ _), ⟨L', rfl, hM', hl'⟩, hst.fr, hst.new⟩
theorem ok_remove : ObjOk Tryz.prog SetsM 178 stRemove where
  enter := enter_of Tryz.func178 (bodyOf_eq (by kernel_rfl)) (by kernel_rfl)
  calls := by
    intro l us0 v l' h ρ us hr w g F hm
    unfold stRemove at h
    split at h <;> try cases h
    split at h <;> try cases h
    rename_i a1 id e1
    simp only [RelL] at hr
    obtain ⟨v1, _, rfl, h1, rfl⟩ := hr
    have := litK_rel e1 h1
    subst_vars
    obtain ⟨L, rfl, hM, hlen⟩ := hm
    refine (remove_m hM id hlen).mono ?_
    rintro e w' ⟨c, L', rfl, hq⟩
    obtain ⟨⟨F', hM', hst⟩, hp⟩ := hq.out
    have key : v = .l .i64 c ∧ l' = L'.map itRow ∧ L'.length ≤ 1000000 := by
      rcases hp with ⟨rfl, rfl, p1⟩ | ⟨rfl, ⟨x, hx, hxi⟩, rfl⟩
      · rw [if_neg (fun hh => by obtain ⟨x, hx, he⟩ := any_row.1 hh; exact p1 x hx (idB_iff.1 he))] at h
        injection h with h; injection h with ha hb
        exact ⟨ha.symm, hb.symm, hlen⟩
      · rw [if_pos (any_row.2 ⟨x, hx, idB_iff.2 hxi⟩)] at h
        injection h with h; injection h with ha hb
        refine ⟨ha.symm, ?_, Nat.le_trans (List.length_filter_le _ _) hlen⟩
        rw [← hb, filter_row]
        congr 1
        refine List.filter_congr fun u _ => ?_
        rw [Bool.eq_iff_iff]
        simp only [Bool.not_eq_true', decide_eq_true_eq]
        rw [← Bool.not_eq_true, idB_iff]
    obtain ⟨rfl, rfl, hl'⟩ := key
    exact ⟨_, F', rfl, rel_i _ _ _, ⟨L', rfl, hM', hl'⟩, hst.fr, hst.new⟩
theorem freshB_iff {x : It} : freshB (itRow x) = true ↔ x.kd.2.2.2 = false := by
  have : freshB (itRow x) = zB (b2i x.kd.2.2.2) 0 := rfl
  rw [this, zB_iff]
  cases x.kd.2.2.2 <;> decide
theorem ok_least : ObjOk Tryz.prog SetsM 177 stLeast where
  enter := enter_of Tryz.func177 (bodyOf_eq (by kernel_rfl)) (by kernel_rfl)
  calls := by
    intro l us0 v l' h ρ us hr w g F hm
    unfold stLeast at h
    split at h <;> try cases h
    simp only [RelL] at hr
    subst hr
    obtain ⟨L, rfl, hM, hlen⟩ := hm
    refine (least_m hM hlen).mono ?_
    rintro e w' ⟨id, ok, rfl, hqq⟩
    obtain ⟨hf, hp⟩ := hqq.out
    have key : v = .tup [.l .i64 id, if ok then .tt else .ff] ∧ l' = L.map itRow := by
      rw [filter_row] at h
      rcases hp with ⟨rfl, rfl, p1⟩ | ⟨rfl, q, hq, rfl, p1, p2⟩
      · have e0 : L.filter (fun q => freshB (itRow q)) = [] := List.filter_eq_nil_iff.2 fun q hq hk => by
          have := p1 q hq
          rw [freshB_iff.1 hk] at this; cases this
        rw [e0] at h
        have h' : some ((SV.tup [.l .i64 0, .ff] : SV), L.map itRow) = some (v, l') := h
        injection h' with h; injection h with ha hb
        exact ⟨ha.symm, hb.symm⟩
      · cases hlow : low ((L.filter fun q => freshB (itRow q)).map itRow) with
        | none =>
          have e0 := low_none hlow
          have : q ∈ L.filter (fun q => freshB (itRow q)) := List.mem_filter.2 ⟨hq, freshB_iff.2 p1⟩
          rw [List.map_eq_nil_iff.1 e0] at this
          cases this
        | some r =>
          obtain ⟨m1, m2⟩ := low_some hlow
          obtain ⟨y', hy', rfl⟩ := List.mem_map.1 m1
          obtain ⟨hyL, hyk⟩ := List.mem_filter.1 hy'
          have l1 := m2 _ (List.mem_map_of_mem (List.mem_filter.2 ⟨hq, freshB_iff.2 p1⟩))
          have l1' : y'.base ≤ q.base := l1
          have l2 := p2 y' hyL (freshB_iff.1 hyk)
          have hyq : y' = q := inj_of_nodup_map hM.is.bases hyL hq (by omega)
          subst hyq
          rw [hlow] at h
          have h' : some ((SV.tup [.l .i64 y'.id, .tt] : SV), L.map itRow) = some (v, l') := h
          injection h' with h; injection h with ha hb
          exact ⟨ha.symm, hb.symm⟩
    obtain ⟨rfl, rfl⟩ := key
    exact ⟨_, F, rfl, rel_tup2 (rel_i _ _ _) (rel_b _ _), ⟨L, rfl, hM.quiet hf, hlen⟩, hf.mono (fun _ _ h => h.elim), fun _ h => .inl h⟩
theorem ok_count : ObjOk Tryz.prog SetsM 129 stCount where
  enter := enter_of Tryz.func129 (bodyOf_eq (by kernel_rfl)) (by kernel_rfl)
  calls := by
    intro l us0 v l' h ρ us hr w g F hm
    unfold stCount at h
    split at h <;> try cases h
    split at h <;> try cases h
    rename_i a1 b e1
    simp only [RelL] at hr
    obtain ⟨v1, _, rfl, h1, rfl⟩ := hr
    have := bitB_rel e1 h1
    subst_vars
    obtain ⟨L, rfl, hM, hlen⟩ := hm
    refine (count_m hM b hlen).mono ?_
    rintro e w' ⟨rfl, hf⟩
    have hf := hf.out
    have e0 : ((L.map itRow).filter fun r => zB (rget r 5) (b2i b)).length = num L b := by
      rw [filter_row, List.length_map]
      unfold num
      congr 1
      refine List.filter_congr fun u _ => ?_
      rw [Bool.eq_iff_iff, beq_iff_eq]
      exact ⟨fun hh => b2i_inj (zB_iff.1 hh), fun hh => zB_iff.2 (congrArg b2i hh)⟩
    rw [e0]
    exact ⟨_, F, rfl, rel_i _ _ _, ⟨L, rfl, hM.quiet hf, hlen⟩, hf.mono (fun _ _ h => h.elim), fun _ h => .inl h⟩
theorem turnR_row (x : It) : turnR (itRow x) = itRow x.turned := rfl
theorem ok_flip : ObjOk Tryz.prog SetsM 184 stFlip where
  enter := enter_of Tryz.func184 (bodyOf_eq (by kernel_rfl)) (by kernel_rfl)
  calls := by
    intro l us0 v l' h ρ us hr w g F hm
    unfold stFlip at h
    split at h <;> try cases h
    simp only [RelL] at hr
    subst hr
    obtain ⟨L, rfl, hM, hlen⟩ := hm
    refine (flip_m hM hlen).mono ?_
    rintro e w' ⟨c, L', rfl, hq⟩
    obtain ⟨⟨F', hM', hst⟩, hp⟩ := hq.out
    have b0 : (L.map itRow).any freshB = true ↔ 0 < num L false := by
      rw [any_row]
      unfold num
      rw [List.length_pos_iff_exists_mem]
      simp only [List.mem_filter, beq_iff_eq, freshB_iff]
    have key : v = .l .i64 c ∧ l' = L'.map itRow ∧ L'.length ≤ 1000000 := by
      rcases hp with ⟨p1, rfl, rfl⟩ | ⟨p1, rfl, rfl⟩
      · rw [if_pos (b0.2 p1)] at h
        injection h with h; injection h with ha hb
        exact ⟨ha.symm, hb.symm, hlen⟩
      · rw [if_neg (fun hh => by have := b0.1 hh; omega)] at h
        injection h with h; injection h with ha hb
        refine ⟨ha.symm, ?_, by rw [List.length_map]; exact hlen⟩
        rw [← hb, List.map_map, List.map_map]
        exact List.map_congr_left fun x _ => turnR_row x
    obtain ⟨rfl, rfl, hl'⟩ := key
    exact ⟨_, F', rfl, rel_i _ _ _, ⟨L', rfl, hM', hl'⟩, hst.fr, hst.new⟩
/-- the contracts of sets that stand as one object of kind 1 -/
noncomputable def wtS : List (FuncId × Spec) := [(44, newSpec 1 []), (226, objSpec 1 stPut), (248, objSpec 1 stTake), (178, objSpec 1 stRemove),
  (177, objSpec 1 stLeast), (129, objSpec 1 stCount), (184, objSpec 1 stFlip)]
theorem wtS_ok {𝔅 : BigRep} (hB : ∀ l g G, 𝔅 (.d 1 l) g G ↔ FpG SetsM g l G) : ∀ x ∈ wtS, SpecOk Tryz.prog 𝔅 x.1 x.2 := by
  intro x hx
  simp only [wtS, List.mem_cons, List.not_mem_nil, or_false] at hx
  rcases hx with rfl | rfl | rfl | rfl | rfl | rfl | rfl
  · exact .inl (new_ok setsM_ok hB (enter_of Tryz.func44 (bodyOf_eq (by kernel_rfl)) (by kernel_rfl)) fun w => (new_m w).mono fun e w' ⟨s, he, hq⟩ => by
      obtain ⟨F', hM, hst⟩ := hq.out
      exact ⟨s, F', he, ⟨[], rfl, hM, Nat.zero_le _⟩, hst.fr, fun b hb => (hst.new b hb).elim False.elim id⟩)
  · exact .inl (obj_ok setsM_ok hB ok_put)
  · exact .inl (obj_ok setsM_ok hB ok_take)
  · exact .inl (obj_ok setsM_ok hB ok_remove)
  · exact .inl (obj_ok setsM_ok hB ok_least)
  · exact .inl (obj_ok setsM_ok hB ok_count)
  · exact .inl (obj_ok setsM_ok hB ok_flip)
end SX
end Go.Proofs.YtnjaaagiindclaaGreatDoor

/-
  (*arena.Map).leaf where no chunk has a leaf, and none is wide: a new leaf, all nought. No condition.
-/
namespace Go.Proofs.YtnjaaagiindclaaGreatDoor
open Go.RowKit Go.Deep
namespace Lf
set_option maxHeartbeats 1000000 in
theorem whole_nil {b : Nat} (w : World) (h : w.cell? ⟨b, 2, none⟩ = some (.slice none 0 0)) (k : Int) :
    Calls Tryz.prog 135 #[.pointer (some ⟨b, 0, none⟩), .int .u64 k] w fun e w' => e = .returned (.int .i64 0) ∧ w = w' := by
  go_enter Tryz.func135, Tryz.ntmps135
  go_wp2
  refine wp_loop_rounds 1 ?_
  rw [rounds_succ]
  go_wp2
  go_ret
  exact ⟨rfl, rfl⟩
theorem set_same {c : Array Value} {i : Nat} {v : Value} (h : c[i]? = some v) : c.setIfInBounds i v = c := by
  obtain ⟨hi, he⟩ := Array.getElem?_eq_some_iff.1 h
  apply Array.ext
  · simp
  · intro j h1 h2
    rw [Array.getElem_setIfInBounds]
    split
    next hj => subst hj; exact he.symm
    next => rfl
theorem fr_same {b : Nat} {w w' : World} (h : Fr (fun x => x = b) w w') (e : w'.heap[b]? = w.heap[b]?) : Fr (fun _ => False) w w' :=
  ⟨h.os, h.tape, h.output, h.size, fun x hx _ => if hb : x = b then by rw [hb]; exact e else h.same x hx hb⟩
set_option maxRecDepth 100000 in
set_option maxHeartbeats 2000000 in
theorem cut_nil {b mm : Nat} {c : Array Value} (w : World) (hb : w.heap[b]? = some (.cells c 246 (0, 0))) (h2 : c[2]? = some (.slice none 0 0)) (h3 : c[3]? = some (.map (some mm))) (hm : MapIs benc w mm []) (k : Nat) (_ : k ≤ 1000000000000) :
    Calls Tryz.prog 229 #[.pointer (some ⟨b, 0, none⟩), .int .u64 k, .int .u64 ((k : Int) + 1)] w fun e w' => e = .returned (.tuple #[]) ∧ Fr (fun _ => False) w w' := by
  have c2 : w.cell? ⟨b, 2, none⟩ = some (.slice none 0 0) := (cell_blk hb 2).trans h2
  have f2 : w.frozen? ⟨b, 2, none⟩ = false := free_blk hb 2
  have c3 : w.cell? ⟨b, 3, none⟩ = some (.map (some mm)) := (cell_blk hb 3).trans h3
  have fS : Fr (fun x => x = b) w (w.setCell ⟨b, 2, none⟩ (.slice none 0 0)) := (Fr.refl _ w).setCell _ _ (.inl rfl)
  have bS : (w.setCell ⟨b, 2, none⟩ (.slice none 0 0)).heap[b]? = w.heap[b]? := by
    have h9 := heap_setCell_at (v := .slice none 0 0) (i := 2) hb
    rw [set_same h2] at h9
    rw [h9, hb]
  have gS := fr_same fS bS
  have hmS := hm.frk gS (fun x => x)
  have cS3 : (w.setCell ⟨b, 2, none⟩ (.slice none 0 0)).cell? ⟨b, 3, none⟩ = some (.map (some mm)) := cell_through gS c3 (fun x => x)
  obtain ⟨W, hW⟩ : ∃ W, W = w.setCell ⟨b, 2, none⟩ (.slice none 0 0) := ⟨_, rfl⟩
  have HM := Lib.hid hm
  have hln := run_map_len (P := Tryz.prog) Tryz.underlying244 hmS 3
  go_enter Tryz.func229, Tryz.ntmps229
  go_wp2
  refine wp_loop_rounds 1 ?_
  rw [rounds_succ]
  go_wp2_with (first
    | (refine wpList_iter_new (by rfl) Tryz.underlying244 _ (by rfl) hmS (by rfl) ?_; intro oo hit; go_simp))
  have hmlt := hmS.lt
  simp only [size_setCell] at hit hmlt
  rcases run_iter_next (P := Tryz.prog) hit (by omega) 0 with ⟨_, hr⟩ | ⟨p, hp, _⟩
  · refine wp_loop_rounds 1 ?_
    rw [rounds_succ]
    clear hit
    go_wp2_with (refine wpList_next_run (by rfl) _ (by rfl) (by rfl) hr ?_; clear hr)
    (try simp only [Exit.inBlock, Exit.then])
    refine bodyPost_ret (results_none rfl _ _ _) rfl ?_
    exact ⟨rfl, gS.alloc _⟩
  · cases hp
theorem zero_leaf : ∀ w, (zeroValue 242).run Tryz.prog w = .ok (.pointer none) w := Tryz.zeroValue242
set_option maxRecDepth 100000 in
set_option maxHeartbeats 4000000 in
theorem leaf_new {b mm : Nat} {c : Array Value} (w : World) (hb : w.heap[b]? = some (.cells c 246 (0, 0))) (h2 : c[2]? = some (.slice none 0 0)) (h3 : c[3]? = some (.map (some mm))) (hm : MapIs benc w mm []) (k : Nat) (hk : k ≤ 1000000000000) :
    Calls Tryz.prog 231 #[.pointer (some ⟨b, 0, none⟩), .int .u64 k] w fun e w' => ∃ g, e = .returned (.pointer (some ⟨g, 0, none⟩)) ∧ w.heap.size ≤ g ∧ Fr (fun x => x = mm) w w' ∧ w'.heap[g]? = some (.cells (Array.replicate 512 (.int .i64 0)) 356 (0, 0)) ∧ MapIs benc w' mm [((k : Int), .pointer (some ⟨g, 0, none⟩))] := by
  have c2 : w.cell? ⟨b, 2, none⟩ = some (.slice none 0 0) := (cell_blk hb 2).trans h2
  have c3 : w.cell? ⟨b, 3, none⟩ = some (.map (some mm)) := (cell_blk hb 3).trans h3
  have hcut := Lib.hid (cut_nil w hb h2 h3 hm k hk)
  have hwh := Lib.hid (whole_nil w c2 (k : Int))
  have HM := Lib.hid hm
  have HB := Lib.hid hb
  go_enter Tryz.func231, Tryz.ntmps231
  go_wp2_with (first
    | (refine wpList_map_lookup (by rfl) keyLaw_b Tryz.underlying244 _ _ false (by rfl) HM.out (k : Int) (.pointer none) zero_leaf (by rfl) (by rfl) ?_; simp only [mapGet, Bool.false_eq_true, if_false, Option.getD])
    | (go_at_call 135; refine hwh.out.mono ?_; rintro e w1 ⟨rfl, rfl⟩)
    | (go_at_call 229; refine hcut.out.mono ?_; rintro e w1 ⟨rfl, hf1⟩; replace hf1 := Lib.hid hf1))
  have z356 : Tryz.zeroCells356 = Array.replicate 512 (.int .i64 0) := by rfl
  rw [z356]
  have hsz1 := hf1.out.size
  go_loopg [7, 25] 512 (fun kk x i wr => ∃ j : Nat, i = .int .i64 j ∧ Hid (j + kk = 512 ∧ Fr (fun _ => False) (w1.alloc (.cells (Array.replicate 512 (.int .i64 0)) 356)) wr ∧ wr.heap[w1.heap.size]? = some (.cells (Array.replicate 512 (.int .i64 0)) 356 (0, 0))))
  case atStart => exact ⟨0, rfl, Lib.hid ⟨by omega, Fr.refl _ _, by rw [heap_alloc, if_pos rfl]⟩⟩
  case round =>
    obtain ⟨j, rfl, HJ⟩ := hrel
    have hF : Fr (fun _ => False) w wr := (hf1.out.trans ((Fr.refl (fun _ => False) w1).alloc _) (fun _ _ x => x)).trans HJ.out.2.1 (fun _ _ x => x)
    have HF := Lib.hid hF
    have d3 := cell_through hF c3 (fun x => x)
    have hmr := Lib.hid (HM.out.frk hF (fun x => x))
    clear hF
    by_cases hj : j < 512
    · have cj : wr.cell? ⟨w1.heap.size, j, none⟩ = some (.int .i64 0) := (cell_blk HJ.out.2.2 j).trans (by rw [Array.getElem?_replicate, if_pos hj])
      have fj : wr.frozen? ⟨w1.heap.size, j, none⟩ = false := free_blk HJ.out.2.2 j
      have fS : Fr (fun x => x = w1.heap.size) wr (wr.setCell ⟨w1.heap.size, j, none⟩ (.int .i64 0)) := (Fr.refl _ wr).setCell _ _ (.inl rfl)
      have bS : (wr.setCell ⟨w1.heap.size, j, none⟩ (.int .i64 0)).heap[w1.heap.size]? = some (.cells (Array.replicate 512 (.int .i64 0)) 356 (0, 0)) := by
        have h9 := heap_setCell_at (v := .int .i64 0) (i := j) HJ.out.2.2
        rw [set_same (by rw [Array.getElem?_replicate, if_pos hj])] at h9
        exact h9
      have GS := Lib.hid (And.intro (fr_same fS (bS.trans HJ.out.2.2.symm)) bS)
      clear fS bS d3
      go_wp2_with fail
      go_roundg (512 - (j + 1))
      case measure => have := HJ.out.1; omega
      case rel => exact ⟨j + 1, by go_num, Lib.hid ⟨by omega, HJ.out.2.1.trans GS.out.1 (fun _ _ x => x), GS.out.2⟩⟩
    · have hj2 : j = 512 := by have := HJ.out.1; omega
      subst hj2
      go_wp2_with (refine wpList_map_set (by rfl) keyLaw_b Tryz.underlying244 _ _ _ (by rfl) hmr.out (k : Int) (.pointer (some ⟨w1.heap.size, 0, none⟩)) (by rfl) (by rfl) (by rfl) ?_; intro w2 hm2 hf2)
      go_ret
      have hmm := hmr.out.lt
      refine ⟨w1.heap.size, rfl, hsz1, (HF.out.mono (fun _ _ x => x.elim)).trans hf2 (fun _ _ x => x), hf2.at HJ.out.2.2 (fun e => ?_), hm2⟩
      obtain ⟨es, cl, h9, _⟩ := hmr.out
      rw [← e, HJ.out.2.2] at h9
      cases h9
end Lf
end Go.Proofs.YtnjaaagiindclaaGreatDoor

/-
  Sets of numbers as rows of stretches: what the memory holds; at, Has, Count.
-/
namespace Go.Proofs.YtnjaaagiindclaaGreatDoor
open Go.RowKit Go.Deep
namespace One

abbrev P2 := Nat × Nat
def enc (l : List P2) : List Value := l.flatMap fun e => [.int .u64 (e.1 : Int), .int .u64 (e.2 : Int)]
theorem enc_len (l : List P2) : (enc l).length = l.length * 2 := by
  induction l with
  | nil => rfl
  | cons e l ih => simp only [enc, List.flatMap_cons, List.length_append, List.length_cons, List.length_nil] at ih ⊢; omega
theorem enc_append (l m : List P2) : enc (l ++ m) = enc l ++ enc m := by simp [enc]
theorem enc_get : ∀ (l : List P2) (i : Nat) (e : P2), l[i]? = some e → (enc l)[i * 2]? = some (.int .u64 (e.1 : Int)) ∧ (enc l)[i * 2 + 1]? = some (.int .u64 (e.2 : Int))
  | [], i, e, h => by simp at h
  | x :: l, 0, e, h => by simp at h; subst h; exact ⟨rfl, rfl⟩
  | x :: l, i + 1, e, h => by
    have := enc_get l i e (by simpa using h)
    have e1 : (i + 1) * 2 = i * 2 + 1 + 1 := by omega
    rw [e1]
    simpa [enc] using this
theorem enc_take (l : List P2) (k : Nat) : (enc l).take (k * 2) = enc (l.take k) := by
  induction l generalizing k with
  | nil => simp [enc]
  | cons e l ih =>
    cases k with
    | zero => simp [enc]
    | succ k =>
      have e1 : (k + 1) * 2 = k * 2 + 1 + 1 := by omega
      have := ih k
      simp only [enc, List.flatMap_cons, List.take_succ_cons, List.cons_append, List.nil_append, e1] at this ⊢
      rw [this]
theorem enc_drop (l : List P2) (k : Nat) : (enc l).drop (k * 2) = enc (l.drop k) := by
  induction l generalizing k with
  | nil => simp [enc]
  | cons e l ih =>
    cases k with
    | zero => simp [enc]
    | succ k =>
      have e1 : (k + 1) * 2 = k * 2 + 1 + 1 := by omega
      have := ih k
      simp only [enc, List.flatMap_cons, List.drop_succ_cons, List.cons_append, List.nil_append, e1] at this ⊢
      rw [this]
/-- rising, with a gap between each two -/
structure Can (l : List P2) : Prop where
  ok : ∀ e ∈ l, e.1 < e.2 ∧ e.2 ≤ 18446744073709551615
  ord : l.Pairwise fun a b => a.2 < b.1
/-- the set in block b, from cell o on -/
structure SetAt (w : World) (b o : Nat) (v : Value) (s : Nat) (l : List P2) : Prop where
  cell : w.cell? ⟨b, o, none⟩ = some v
  sum : w.cell? ⟨b, o + 1, none⟩ = some (.int .u64 (s : Int))
  rd : Rd w 2 v l.length (enc l)
  can : Can l
  len : l.length ≤ 1000000
theorem SetAt.quiet {w w' : World} {b o : Nat} {v : Value} {s : Nat} {l : List P2} (h : SetAt w b o v s l) (hf : Fr (fun _ => False) w w') : SetAt w' b o v s l :=
  ⟨cell_through hf h.cell (fun x => x), cell_through hf h.sum (fun x => x), h.rd.fr hf (fun _ _ x => x), h.can, h.len⟩
theorem SetAt.piece {w : World} {b o : Nat} {v : Value} {s : Nat} {l : List P2} (h : SetAt w b o v s l) : ∃ al cl, v = .slice al l.length cl ∧ l.length ≤ cl ∧
    ∀ i e, l[i]? = some e → ∃ pb po, al = some ⟨pb, po, none⟩ ∧ w.cell? ⟨pb, po + i * 2, none⟩ = some (.int .u64 (e.1 : Int)) ∧ w.cell? ⟨pb, po + i * 2 + 1, none⟩ = some (.int .u64 (e.2 : Int)) := by
  obtain ⟨a, c, hv, hc, hl, hn, hx⟩ := id h.rd
  have hrd := h.rd
  rw [hv] at hrd
  refine ⟨a, c, hv, hc, fun i e hi => ?_⟩
  obtain ⟨pb, po, rfl, hcc⟩ := rd_rows (f := fun e : P2 => [.int .u64 (e.1 : Int), .int .u64 (e.2 : Int)]) (k := 2) (fun _ => rfl) (by decide) hrd hi
  exact ⟨pb, po, rfl, hcc 0 _ rfl, hcc 1 _ rfl⟩
/-- does the i-th end behind x? -/
def behind (l : List P2) (x i : Nat) : Bool := match l[i]? with
  | some e => decide (x < e.2)
  | none => true
theorem behind_mono {l : List P2} (h : Can l) (x i j : Nat) (hij : i ≤ j) (hj : j < l.length) (hi : behind l x i = true) : behind l x j = true := by
  by_cases e : i = j
  · subst e; exact hi
  · have hlt : i < l.length := by omega
    have h1 := List.pairwise_iff_getElem.1 h.ord i j hlt hj (by omega)
    have h2 := h.ok l[j] (List.getElem_mem hj)
    unfold behind at hi ⊢
    rw [List.getElem?_eq_getElem hlt] at hi
    rw [List.getElem?_eq_getElem hj]
    simp only [decide_eq_true_eq] at hi ⊢
    omega
set_option maxHeartbeats 1000000 in
theorem at_one {b o : Nat} {v : Value} {s : Nat} {l : List P2} (p q i x : Nat) (e : P2) (w : World) (hp : w.cell? ⟨p, 0, none⟩ = some (.pointer (some ⟨b, o, none⟩))) (hq : w.cell? ⟨q, 0, none⟩ = some (.int .u64 x))
    (h : SetAt w b o v s l) (hi : l[i]? = some e) :
    Calls Tryz.prog 246 #[.int .i64 i, .pointer (some ⟨p, 0, none⟩), .pointer (some ⟨q, 0, none⟩)] w fun en w' => en = .returned (.bool (behind l x i)) ∧ ∃ m, w' = w.drewN m := by
  obtain ⟨al, cl, rfl, _, hx⟩ := h.piece
  obtain ⟨pb, po, rfl, h0, h1⟩ := hx i e hi
  have hn := h.len
  have hc := h.cell
  have hlt : i < l.length := (List.getElem?_eq_some_iff.1 hi).1
  have E : behind l x i = decide (x < e.2) := by unfold behind; rw [hi]
  rw [E]
  clear E hx hi h h0
  go_enter Tryz.func246, Tryz.ntmps246
  go_wp2_with fail
  go_quiet (fail)
  go_wp2
  go_ret
  exact ⟨rfl, _, rfl⟩
/-- where x would stand -/
def AtIs (l : List P2) (x r : Nat) : Prop := r ≤ l.length ∧ (∀ i e, i < r → l[i]? = some e → e.2 ≤ x) ∧ (∀ i e, r ≤ i → l[i]? = some e → x < e.2)
set_option maxHeartbeats 1000000 in
theorem at_any {b o : Nat} {v : Value} {s : Nat} {l : List P2} (w : World) (h : SetAt w b o v s l) (x : Nat) :
    Calls Tryz.prog 206 #[.pointer (some ⟨b, o, none⟩), .int .u64 x] w fun e w' => ∃ r : Nat, e = .returned (.int .i64 r) ∧ Hid (AtIs l x r) ∧ Hid (Fr (fun _ => False) w w') := by
  have hn := h.len
  have fr : Fr (fun _ => False) w ((w.alloc (.cells #[.pointer (some ⟨b, o, none⟩)] 305)).alloc (.cells #[.int .u64 x] 22)) := ((Fr.refl _ w).alloc _).alloc _
  have hs : Calls Tryz.prog 147 #[.int .i64 l.length, .func (.func 246) #[] #[.pointer (some ⟨w.heap.size, 0, none⟩), .pointer (some ⟨w.heap.size + 1, 0, none⟩)]]
      ((w.alloc (.cells #[.pointer (some ⟨b, o, none⟩)] 305)).alloc (.cells #[.int .u64 x] 22)) (fun e w' => ∃ r : Nat, e = .returned (.int .i64 r) ∧ Hid (AtIs l x r) ∧ Hid (Fr (fun _ => False) w w')) := by
    refine (search_any (p := behind l x) _ (fun args w => by simp [callFunc, Tryz.func246, Tryz.f246]) (by omega) (fun k i hi => ?_) (behind_mono h.can x)).mono ?_
    · obtain ⟨e, he⟩ : ∃ e, l[i]? = some e := ⟨_, List.getElem?_eq_getElem hi⟩
      have := at_one w.heap.size (w.heap.size + 1) i x e (((w.alloc (.cells #[.pointer (some ⟨b, o, none⟩)] 305)).alloc (.cells #[.int .u64 x] 22)).drewN k)
        (cell_blk (w := ((w.alloc (.cells #[.pointer (some ⟨b, o, none⟩)] 305)).alloc (.cells #[.int .u64 x] 22))) (c := #[.pointer (some ⟨b, o, none⟩)]) (by rw [heap_alloc, if_neg (by simp), heap_alloc, if_pos rfl]) 0)
        (cell_blk (w := ((w.alloc (.cells #[.pointer (some ⟨b, o, none⟩)] 305)).alloc (.cells #[.int .u64 x] 22))) (c := #[.int .u64 x]) (by rw [heap_alloc, if_pos (by simp)]) 0) (h.quiet (fr.drewN k)) he
      refine this.mono fun e w' ⟨he, q, hq⟩ => ⟨he, k + q, by rw [hq, World.drewN_drewN]⟩
    · rintro e w' ⟨r, q, rfl, rfl, h1, h2, h3⟩
      refine ⟨r, rfl, Lib.hid ⟨h1, fun i x hi hx => ?_, fun i x hi hx => ?_⟩, Lib.hid (fr.drewN q)⟩
      · have := h2 i hi; unfold behind at this; rw [hx] at this; simpa using this
      · have := h3 i hi (List.getElem?_eq_some_iff.1 hx).1; unfold behind at this; rw [hx] at this; simpa using this
  obtain ⟨al, cl, rfl, hle, _⟩ := h.piece
  have hr := cell_through fr h.cell (fun x => x)
  have HS := Lib.hid hs
  clear hs fr h
  go_enter Tryz.func206, Tryz.ntmps206
  go_wp2_with (first | (go_at_call 147; refine HS.out.mono ?_; rintro e w' ⟨r, rfl, h1, h2⟩))
  go_ret
  exact ⟨r, rfl, h1, h2⟩
end One
end Go.Proofs.YtnjaaagiindclaaGreatDoor

/-
  Sets of numbers: Count, Has.
-/
namespace Go.Proofs.YtnjaaagiindclaaGreatDoor
open Go.RowKit Go.Deep
def Held' (p : Prop) : Prop := p
theorem hold' {p : Prop} (h : Held' p) : p := h
namespace One
/-- how many numbers of a row lie from one on, ahead of another one -/
def cntR (fr tt : Nat) : List P2 → Nat
  | [] => 0
  | e :: l => if e.1 < tt then (min e.2 tt - max e.1 fr) + cntR fr tt l else 0
theorem drop_at {l : List P2} {q : Nat} {e : P2} (h : l[q]? = some e) : l.drop q = e :: l.drop (q + 1) := by
  obtain ⟨hl, he⟩ := List.getElem?_eq_some_iff.1 h
  rw [List.drop_eq_getElem_cons hl, he]
theorem cntR_le (fr tt : Nat) : ∀ {l : List P2}, Can l → cntR fr tt l ≤ tt - (match l with | [] => tt | e :: _ => e.1)
  | [], _ => by simp [cntR]
  | e :: l, h => by
    have h2 : Can l := ⟨fun x hx => h.ok x (List.mem_cons_of_mem _ hx), (List.pairwise_cons.1 h.ord).2⟩
    have ih := cntR_le fr tt h2
    have h0 := h.ok e (by simp)
    simp only [cntR]
    split
    next hlt =>
      cases l with
      | nil => simp only [cntR] at ih ⊢; omega
      | cons x l =>
        have h3 := (List.pairwise_cons.1 h.ord).1 x (by simp)
        simp only at ih ⊢
        have h4 : cntR fr tt (x :: l) = 0 ∨ x.1 < tt := by
          by_cases hx : x.1 < tt
          · exact .inr hx
          · left; simp only [cntR, if_neg hx]
        rcases h4 with h4 | h4 <;> omega
    next => omega
theorem Can.drop {l : List P2} (h : Can l) (k : Nat) : Can (l.drop k) := ⟨fun e he => h.ok e (List.mem_of_mem_drop he), h.ord.sublist (List.drop_sublist _ _)⟩
theorem Can.take {l : List P2} (h : Can l) (k : Nat) : Can (l.take k) := ⟨fun e he => h.ok e (List.mem_of_mem_take he), h.ord.sublist (List.take_sublist _ _)⟩
theorem cntR_le' {l : List P2} (h : Can l) (fr tt : Nat) : cntR fr tt l ≤ tt := Nat.le_trans (cntR_le fr tt h) (Nat.sub_le _ _)
set_option maxRecDepth 100000 in
set_option maxHeartbeats 2000000 in
theorem count_any {b o : Nat} {v : Value} {s : Nat} {l : List P2} (w : World) (h : SetAt w b o v s l) (fr tt : Nat) (hft : fr < tt) (htt : tt ≤ 18446744073709551615) :
    Calls Tryz.prog 190 #[.pointer (some ⟨b, o, none⟩), .int .u64 fr, .int .u64 tt] w fun e w' => ∃ r : Nat, e = .returned (.int .u64 (cntR fr tt (l.drop r) : Nat)) ∧ Hid (AtIs l fr r) ∧ Hid (Fr (fun _ => False) w w') := by
  have hn := h.len
  have hat := Lib.hid (at_any w h fr)
  have H := Lib.hid h
  clear h
  go_enter Tryz.func190, Tryz.ntmps190
  go_wp2_with (first | (go_at_call 206; refine hat.out.mono ?_; rintro e w1 ⟨r, rfl, hr2, hf1⟩))
  clear hat
  go_loopg [7, 8] l.length (fun kk n i wr => ∃ (q c : Nat), i = .int .i64 q ∧ n = .int .u64 (c : Nat) ∧ Hid (Fr (fun _ => False) w wr ∧ r ≤ q ∧ q ≤ l.length ∧ c + cntR fr tt (l.drop q) = cntR fr tt (l.drop r) ∧ l.length - q ≤ kk))
  case atStart =>
    exact ⟨r, 0, rfl, rfl, Lib.hid ⟨hf1.out, Nat.le_refl _, hr2.out.1, by omega, by omega⟩⟩
  case round =>
    obtain ⟨q, c, rfl, rfl, HG⟩ := hrel
    obtain ⟨al, cl, hv, hle, hpc⟩ := (H.out.quiet HG.out.1).piece
    have hcell := (H.out.quiet HG.out.1).cell
    rw [hv] at hcell
    have hcb := cntR_le' (H.out.can.drop r) fr tt
    by_cases hlt : q < l.length
    · obtain ⟨e, hei⟩ : ∃ e, l[q]? = some e := ⟨_, List.getElem?_eq_getElem hlt⟩
      obtain ⟨pb, po, rfl, c0, c1⟩ := hpc _ _ hei
      have hbe := hr2.out.2.2 q e HG.out.2.1 hei
      have hok := H.out.can.ok e (List.mem_of_getElem? hei)
      have hsum := HG.out.2.2.2.1
      rw [drop_at hei] at hsum
      have hd1 := Lib.hid (drop_at hei)
      obtain ⟨ea, eb⟩ := e
      simp only at c0 c1 hbe hok
      clear hpc hle hv hei
      by_cases hin : ea < tt
      · simp only [cntR, if_pos hin] at hsum
        obtain ⟨lo, hlo⟩ : ∃ lo, (ea < fr ∧ lo = fr) ∨ (¬ ea < fr ∧ lo = ea) := by
          by_cases h : ea < fr
          · exact ⟨fr, .inl ⟨h, rfl⟩⟩
          · exact ⟨ea, .inr ⟨h, rfl⟩⟩
        obtain ⟨hi, hhi⟩ : ∃ hi, (tt < eb ∧ hi = tt) ∨ (¬ tt < eb ∧ hi = eb) := by
          by_cases h : tt < eb
          · exact ⟨tt, .inl ⟨h, rfl⟩⟩
          · exact ⟨eb, .inr ⟨h, rfl⟩⟩
        have z5 : lo ≤ hi := by omega
        have hm : min eb tt - max ea fr = hi - lo := by omega
        rw [hm] at hsum
        have hc2 : c + (hi - lo) ≤ tt := by omega
        obtain ⟨d, hd⟩ : ∃ d, d = hi - lo := ⟨_, rfl⟩
        rw [← hd] at hsum
        have hz : ((c + d : Nat) : Int) = (c : Int) + (((hi : Nat) : Int) - ((lo : Nat) : Int)) := by omega
        have HZ := Lib.hid hz
        have hsum := Lib.hid hsum
        have hok := Lib.hid hok
        clear hm hcb hz hd
        rcases hlo with ⟨ha1, rfl⟩ | ⟨ha1, rfl⟩ <;> rcases hhi with ⟨hb1, rfl⟩ | ⟨hb1, rfl⟩
        all_goals (
          go_wp2_with fail
          go_quiet (fail)
          go_wp2
          go_roundg (l.length - (q + 1))
          case measure => have := HG.out.2.2.2.2; omega
          case rel => exact ⟨q + 1, c + d, by go_num, by rw [HZ.out], Lib.hid ⟨HG.out.1.drewN _, by have := HG.out.2.1; omega, by omega, by have := hsum.out; omega, Nat.le_refl _⟩⟩)
      · have hs : c = cntR fr tt (l.drop r) := by
          rw [← hsum]
          simp only [cntR, if_neg hin]
          omega
        have HS := Lib.hid hs
        clear hs hsum hcb hok
        go_wp2_with fail
        go_ret
        exact ⟨r, by rw [← HS.out]; rfl, hr2, Lib.hid HG.out.1⟩
    · have hs : c = cntR fr tt (l.drop r) := by
        have h1 := HG.out.2.2.2.1
        rw [List.drop_eq_nil_iff.2 (by omega)] at h1
        rw [← h1]; rfl
      have HS := Lib.hid hs
      clear hs hpc hle hcb hv
      go_wp2_with fail
      go_ret
      exact ⟨r, by rw [← HS.out]; rfl, hr2, Lib.hid HG.out.1⟩
set_option maxHeartbeats 1000000 in
theorem has_any {b o : Nat} {v : Value} {s : Nat} {l : List P2} (w : World) (h : SetAt w b o v s l) (x : Nat) :
    Calls Tryz.prog 146 #[.pointer (some ⟨b, o, none⟩), .int .u64 x] w fun e w' => ∃ r : Nat, e = .returned (.bool (match l[r]? with | some e => decide (e.1 ≤ x) | none => false)) ∧ Hid (AtIs l x r) ∧ Hid (Fr (fun _ => False) w w') := by
  have hn := h.len
  have hat := Lib.hid (at_any w h x)
  have H := Lib.hid h
  clear h
  go_enter Tryz.func146, Tryz.ntmps146
  go_wp2_with (first | (go_at_call 206; refine hat.out.mono ?_; rintro e w1 ⟨r, rfl, hr2, hf1⟩; refine hold' ?_))
  unfold Held'
  obtain ⟨al, cl, hv, hle, hpc⟩ := (H.out.quiet hf1.out).piece
  have hcell := (H.out.quiet hf1.out).cell
  rw [hv] at hcell
  rename_i hK
  refine hK _ _ ?_
  clear hK hat
  by_cases hlt : r < l.length
  · obtain ⟨e, hei⟩ : ∃ e, l[r]? = some e := ⟨_, List.getElem?_eq_getElem hlt⟩
    obtain ⟨pb, po, rfl, c0, c1⟩ := hpc _ _ hei
    have E : Hid ((match l[r]? with | some e => decide (e.1 ≤ x) | none => false) = decide (e.1 ≤ x)) := Lib.hid (by rw [hei])
    clear hpc hle hv hei
    by_cases hx : e.1 ≤ x
    · go_wp2_with fail
      go_ret
      exact ⟨r, by rw [E.out, decide_eq_true hx]; rfl, hr2, hf1⟩
    · go_wp2_with fail
      go_ret
      exact ⟨r, by rw [E.out, decide_eq_false hx]; rfl, hr2, hf1⟩
  · have E : Hid ((match l[r]? with | some e => decide (e.1 ≤ x) | none => false) = false) := Lib.hid (by rw [List.getElem?_eq_none (by omega)])
    clear hpc hle hv
    go_wp2_with fail
    go_ret
    exact ⟨r, by rw [E.out]; rfl, hr2, hf1⟩
end One
end Go.Proofs.YtnjaaagiindclaaGreatDoor
