/-
  Part 6 of what the statement leans on: Pl3, Tr4, Pa1, Pa2, Rf4, Rf5, Rf6, Lw1, WTab, WS0, WG0, WS1, WG1, WS2, WG2, WS3, WG3, WS4, WG4, WS5, WG5, WS6, WG6, Aw28, Lw2, Lw3, Lw3a, Lw3b, Lw3d, Lw3e.
-/
import Derived.Test.YtcemhpdhcmlhlaaGreatDoorPk4
import Derived.Test.YtcemhpdhcmlhlaaGreatDoorPk5
import Derived.Maps.OwnIn
import Derived.Maps.AppendAt
import Derived.Deep.CutBlock
import Derived.Deep.DeepCutAuto
import Derived.Laws.StructEq
/-
  Plain facts: the lines of a text. No program in sight.
-/
namespace Go.Proofs.YtcemhpdhcmlhlaaGreatDoor
theorem linesOf_flat : ∀ s : List UInt8, (linesOf s).flatten = s
  | [] => rfl
  | b :: l => by
    have ih := linesOf_flat l
    unfold linesOf
    split
    next e => subst e; simp [ih]
    next e =>
      split
      next h => rw [h] at ih; simp at ih; simp [← ih]
      next q qs h => rw [h] at ih; simp at ih; simp [ih]
theorem linesOf_app : ∀ (t s : List UInt8), (10 : UInt8) ∉ t → linesOf (t ++ 10 :: s) = (t ++ [10]) :: linesOf s
  | [], s, _ => by simp [linesOf]
  | b :: t, s, h => by
    have hb : b ≠ 10 := fun e => h (by simp [e])
    have ih := linesOf_app t s (fun e => h (List.mem_cons_of_mem _ e))
    rw [List.cons_append, linesOf, if_neg hb, ih]
    rfl
theorem linesOf_bare : ∀ (t : List UInt8), (10 : UInt8) ∉ t → t ≠ [] → linesOf t = [t]
  | [], _, h => absurd rfl h
  | b :: t, h, _ => by
    have hb : b ≠ 10 := fun e => h (by simp [e])
    rw [linesOf, if_neg hb]
    by_cases e : t = []
    · subst e; rfl
    · rw [linesOf_bare t (fun e => h (List.mem_cons_of_mem _ e)) e]
/-- how many ends of lines -/
def ends (s : List UInt8) : Nat := s.countP (· == 10)
theorem linesOf_ends (s : List UInt8) : s ≠ [] → s.getLast? ≠ some 10 → (linesOf s).length = ends s + 1 := by
  induction s with
  | nil => intro h; exact absurd rfl h
  | cons b l ih =>
    intro _ h
    by_cases e : l = []
    · subst e
      have hb : b ≠ 10 := fun e => h (by simp [e])
      simp [linesOf, ends, hb]
    · have h' : l.getLast? ≠ some 10 := by rw [List.getLast?_cons_of_ne_nil e] at h; exact h
      have ih := ih e h'
      unfold linesOf
      split
      next hb => subst hb; simp [ih, ends]
      next hb =>
        have hc : ends (b :: l) = ends l := by simp [ends, hb]
        rw [hc]
        split
        next hl => rw [hl] at ih; simp at ih
        next q qs hl => rw [hl] at ih; simpa using ih
theorem linesOf_last (s : List UInt8) (x : List UInt8) : (linesOf s).getLast? = some x → x.getLast? = s.getLast? := by
  intro h
  have hf := linesOf_flat s
  have hne : linesOf s ≠ [] := by rintro e; rw [e] at h; cases h
  have h1 := List.dropLast_concat_getLast hne
  have h2 : (linesOf s).getLast hne = x := by rw [List.getLast?_eq_some_getLast hne] at h; exact Option.some.inj h
  rw [h2] at h1
  rw [← hf, ← h1, List.flatten_append]
  simp only [List.flatten_cons, List.flatten_nil, List.append_nil]
  have hx : x ≠ [] := by
    have hm : x ∈ linesOf s := List.mem_of_getLast? h
    have : ∀ (s : List UInt8), ∀ q ∈ linesOf s, q ≠ [] := by
      intro s
      induction s with
      | nil => intro q hq; simp [linesOf] at hq
      | cons b l ih =>
        intro q hq
        unfold linesOf at hq
        split at hq
        · rcases List.mem_cons.1 hq with rfl | hq
          · simp
          · exact ih q hq
        · split at hq
          · simp at hq; subst hq; simp
          next p ps hp =>
            rcases List.mem_cons.1 hq with rfl | hq
            · simp
            · exact ih q (by rw [hp]; simp [hq])
    exact this s x hm
  rw [List.getLast?_append]
  cases e : x.getLast? with
  | none => rw [List.getLast?_eq_none_iff] at e; exact absurd e hx
  | some c => rfl
theorem linesOf_pre : ∀ (p r : List UInt8), (linesOf p).dropLast <+: linesOf (p ++ r)
  | [], r => by simp [linesOf]
  | b :: p, r => by
    have ih := linesOf_pre p r
    rw [List.cons_append]
    by_cases hb : b = 10
    · subst hb
      rw [show linesOf (10 :: p) = [10] :: linesOf p from by simp [linesOf], show linesOf (10 :: (p ++ r)) = [10] :: linesOf (p ++ r) from by simp [linesOf]]
      cases h : linesOf p with
      | nil => simp
      | cons q qs =>
        rw [h] at ih
        rw [List.dropLast_cons_of_ne_nil (by simp)]
        exact List.cons_prefix_cons.2 ⟨rfl, ih⟩
    · cases h : linesOf p with
      | nil =>
        rw [show linesOf (b :: p) = [[b]] from by simp [linesOf, hb, h]]
        simp
      | cons q qs =>
        rw [show linesOf (b :: p) = (b :: q) :: qs from by simp [linesOf, hb, h]]
        rw [h] at ih
        cases qs with
        | nil => simp
        | cons q2 qs =>
          rw [List.dropLast_cons_of_ne_nil (by simp)] at ih ⊢
          cases h2 : linesOf (p ++ r) with
          | nil => rw [h2] at ih; simp at ih
          | cons q' qs' =>
            rw [h2] at ih
            obtain ⟨e2, ih2⟩ := List.cons_prefix_cons.1 ih
            subst e2
            rw [show linesOf (b :: (p ++ r)) = (b :: q) :: qs' from by simp [linesOf, hb, h2]]
            exact List.cons_prefix_cons.2 ⟨rfl, ih2⟩

theorem no10_line (y : Ev) (h : y.right = true) : ∃ t, y.line = t ++ [10] ∧ (10 : UInt8) ∉ t := by
  refine ⟨Lib.itoa y.task ++ [32] ++ Lib.itoa y.ask ++ [32] ++ y.stage ++ [32] ++ Lib.itoa y.span, rfl, ?_⟩
  have h2 := (no_stage (right_is h).stage).2
  simp only [List.mem_append, List.mem_singleton, no10_itoa, h2, or_false]
  decide
theorem linesOf_lines : ∀ (L : List Ev), (∀ x ∈ L, x.right = true) → linesOf (L.flatMap Ev.line) = L.map Ev.line
  | [], _ => rfl
  | x :: L, h => by
    obtain ⟨t, e, hn⟩ := no10_line x (h x (by simp))
    rw [List.flatMap_cons, List.map_cons, e, List.append_assoc, List.singleton_append, linesOf_app t _ hn, linesOf_lines L (fun y hy => h y (by simp [hy]))]
/-- a cut text: what is wrong with it is its last line -/
theorem cut_last {L M : List Ev} {x : List UInt8} {P R : List UInt8} (hM : ∀ z ∈ M, z.right = true) (he : P ++ R = M.flatMap Ev.line) (hP : P ≠ []) (h10 : P.getLast? ≠ some 10)
    (hx : ∀ y : Ev, y.right = true → y.line ≠ x) (hp : L.map Ev.line ++ [x] <+: linesOf P) : L.length = ends P := by
  have hl := linesOf_ends P hP h10
  have h1 := hp.length_le
  simp only [List.length_append, List.length_map, List.length_singleton] at h1
  rcases Nat.lt_or_ge L.length (ends P) with h2 | h2
  · exfalso
    have h3 := linesOf_pre P R
    rw [he, linesOf_lines M hM] at h3
    obtain ⟨q, hq⟩ := hp
    have h4 : (linesOf P)[L.length]? = some x := by rw [← hq]; simp
    have h5 : (linesOf P).dropLast[L.length]? = some x := by
      rw [List.getElem?_dropLast, if_pos (by omega)]; exact h4
    obtain ⟨r, hr⟩ := h3
    have h6 : x ∈ M.map Ev.line := by rw [← hr]; exact List.mem_append_left _ (List.mem_of_getElem? h5)
    obtain ⟨y, hy, e⟩ := List.mem_map.1 h6
    exact hx y (hM y hy) e
  · omega
theorem cut_none {L : List Ev} {P : List UInt8} (hP : P ≠ []) (h10 : P.getLast? ≠ some 10) : linesOf P ≠ L.map Ev.line := by
  intro h
  have hl := linesOf_ends P hP h10
  obtain ⟨M, y, rfl⟩ : ∃ M y, L = M ++ [y] := by
    rcases List.eq_nil_or_concat L with e | ⟨M, y, e⟩
    · subst e; rw [h] at hl; simp at hl
    · exact ⟨M, y, by rw [e, List.concat_eq_append]⟩
  have h1 : (linesOf P).getLast? = some y.line := by rw [h]; simp
  have h2 := linesOf_last P _ h1
  obtain ⟨t, e⟩ := line_end y
  rw [e] at h2
  exact h10 (by rw [← h2]; simp)
end Go.Proofs.YtcemhpdhcmlhlaaGreatDoor

/-
  trace: Print. No condition.
-/
namespace Go.Proofs.YtcemhpdhcmlhlaaGreatDoor
open Go.RowKit Go.Deep Go.Shelf

def printV (L : List Ev) : Value := if L.all Ev.right then .tuple #[str (L.flatMap Ev.line), .int .i64 0] else .tuple #[str [], .int .i64 1]
theorem cells_len (x : Ev) : x.cells.length = 4 := rfl
theorem Ev.at {w : World} {a : Option Addr} {n c : Nat} {L : List Ev} (h : Rd w 4 (.slice a n c) n (L.flatMap Ev.cells)) {j : Nat} {x : Ev} (hj : L[j]? = some x) :
    ∃ b o, a = some ⟨b, o, none⟩ ∧ w.cell? ⟨b, o + j * 4, none⟩ = some (.int .i64 x.task) ∧ w.cell? ⟨b, o + j * 4 + 1, none⟩ = some (.int .i64 x.ask) ∧ w.cell? ⟨b, o + j * 4 + 2, none⟩ = some (str x.stage) ∧ w.cell? ⟨b, o + j * 4 + 3, none⟩ = some (.int .i64 x.span) := by
  obtain ⟨b, o, rfl, h2⟩ := rd_rows cells_len (by decide) h hj
  exact ⟨b, o, rfl, h2 0 _ rfl, h2 1 _ rfl, h2 2 _ rfl, h2 3 _ rfl⟩

theorem flat_one {α β : Type} (f : α → List β) {L : List α} {x : α} (h : x ∈ L) : (f x).length ≤ (L.flatMap f).length := by
  induction L with
  | nil => simp at h
  | cons y L ih =>
    rw [List.flatMap_cons, List.length_append]
    rcases List.mem_cons.1 h with rfl | h
    · omega
    · have := ih h; omega
theorem flat_step {α β : Type} (f : α → List β) {L : List α} {j : Nat} {x : α} (h : L[j]? = some x) : (L.take (j + 1)).flatMap f = (L.take j).flatMap f ++ f x := by
  have e : L.take (j + 1) = L.take j ++ [x] := by rw [List.take_add_one, h]; rfl
  rw [e, List.flatMap_append]; simp
theorem flat_take_le {α β : Type} (f : α → List β) {L : List α} (j : Nat) : ((L.take j).flatMap f).length ≤ (L.flatMap f).length := by
  have : L.flatMap f = (L.take j).flatMap f ++ (L.drop j).flatMap f := by rw [← List.flatMap_append, List.take_append_drop]
  rw [this, List.length_append]; omega
theorem bld_fr {w w' : World} {B b : Nat} {bs : List Value} (h : Lib.IsBuilderF 39 5 B b bs w) (hf : Fr (fun _ => False) w w') : Lib.IsBuilderF 39 5 B b bs w' := by
  refine h.imp ?_ ?_
  all_goals
    rintro ⟨hB, v, hb, ⟨hl, hown⟩, hne⟩
    refine ⟨hB, v, hf.at hb (fun x => x), ⟨hl, hown.imp id ?_⟩, hne⟩
    rintro ⟨g, cap, cur, fz, hv, hg, hh, r⟩
    exact ⟨g, cap, cur, fz, hv, hg, hf.at hh (fun x => x), r⟩
/-- between two rounds -/
structure PrI (w w1 : World) (m : Nat) (t : List UInt8) (wr : World) : Prop where
  bld : Lib.IsBuilderF 39 5 w1.heap.size w1.heap.size (Lib.byteCells t) wr
  bel : Below w1.heap.size w1 wr
  map : AllS w1 m
  lt : m < w1.heap.size
  fr : Fr (fun _ => False) w w1
theorem PrI.frw {w w1 wr : World} {m : Nat} {t : List UInt8} (h : PrI w w1 m t wr) : Fr (fun _ => False) w1 wr := Below.fr h.bel _
theorem PrI.fr0 {w w1 wr : World} {m : Nat} {t : List UInt8} (h : PrI w w1 m t wr) : Fr (fun _ => False) w wr := h.fr.trans h.frw (fun _ _ x => x)

theorem right_len {x : Ev} (hw : x.wf) (h : x.right = true) : x.line.length ≤ 100 ∧ x.stage.length ≤ 7 := by
  have l1 := Lib.itoa_length_le _ hw.task.1 hw.task.2
  have l2 := Lib.itoa_length_le _ hw.ask.1 hw.ask.2
  have l3 := Lib.itoa_length_le _ hw.span.1 hw.span.2
  have h5 : x.stage.length ≤ 7 := by
    unfold Ev.right at h
    simp only [Bool.and_eq_true, decide_eq_true_eq] at h
    have h1 : x.stage ∈ stagesL := List.contains_iff_mem.1 h.2.2.2.2
    have h0 : stagesL.all (fun s => decide (s.length ≤ 7)) = true := by decide
    simpa using List.all_eq_true.1 h0 _ h1
  refine ⟨?_, h5⟩
  unfold Ev.line
  simp only [List.length_append, List.length_singleton]
  omega
theorem lines_len {L : List Ev} (hw : ∀ x ∈ L, x.wf) (h : ∀ x ∈ L, x.right = true) : (L.flatMap Ev.line).length ≤ 100 * L.length := by
  induction L with
  | nil => simp
  | cons x L ih =>
    have h1 := (right_len (hw x (by simp)) (h x (by simp))).1
    have h2 := ih (fun y hy => hw y (by simp [hy])) (fun y hy => h y (by simp [hy]))
    rw [List.flatMap_cons, List.length_append, List.length_cons]
    omega
set_option maxHeartbeats 4000000 in
set_option maxRecDepth 100000 in
theorem print_h (w : World) (a : Option Addr) (c : Nat) (L : List Ev) (hrd : Rd w 4 (.slice a L.length c) L.length (L.flatMap Ev.cells)) (hwf : ∀ x ∈ L, x.wf) (hn : L.length ≤ 1000000) (hL : Laid w) :
    Calls Tryz.prog 5 #[.slice a L.length c] w fun e w' => e = .returned (printV L) ∧ Fr (fun _ => False) w w' := by
  have HS := Lib.hid (stages_h w hL)
  have HR := Lib.hid hrd
  have HL := Lib.hid hL
  have HW := Lib.hid hwf
  clear hrd hL hwf
  go_enter Tryz.func5, Tryz.ntmps5
  go_wp2_with (go_at_call 11; refine HS.out.mono ?_; rintro e w1 ⟨m, rfl, hm1, hm2, hf1⟩)
  have hB0 : PrI w w1 m [] (w1.alloc (.cells #[.pointer none, .slice none 0 0] 39)) := by
    refine ⟨.inl ⟨Nat.le_refl _, .slice none 0 0, by rw [heap_alloc, if_pos rfl], ⟨rfl, .inl ⟨rfl, rfl⟩⟩, by simp [Value.ownBlock]⟩, (Below.refl _ w1).alloc (Nat.le_refl _) _, hm1, ?_, hf1⟩
    obtain ⟨m', h, _⟩ := hm1
    exact h.lt
  replace hB0 := Lib.hid hB0
  clear hm1 hf1 HS
  go_loopg [11] L.length (fun k i wr => ∃ (j : Nat), i = .int .i64 j ∧ Hid (j + k = L.length ∧ (∀ x ∈ L.take j, x.right = true) ∧ PrI w w1 m ((L.take j).flatMap Ev.line) wr))
  case atStart =>
    refine ⟨0, rfl, Lib.hid ⟨by simp, by simp, hB0.out⟩⟩
  case round =>
    obtain ⟨j, rfl, hj⟩ := hrel
    by_cases hlt : j < L.length
    · obtain ⟨x, hx⟩ : ∃ x, L[j]? = some x := ⟨_, List.getElem?_eq_getElem hlt⟩
      have hI := Lib.hid hj.out.2.2
      obtain ⟨b, o, rfl, c0, c1, c2, c3⟩ := Ev.at (HR.out.fr (S := fun _ => False) (hI.out.fr0) (fun _ _ x => x)) hx
      have hxm : x ∈ L := List.mem_of_getElem? hx
      have hxw := HW.out x hxm
      have HRt : Hid (∀ W, W = wr.alloc (.cells #[Value.int .i64 x.task, .int .i64 x.ask, str x.stage, .int .i64 x.span] 24) → Calls Tryz.prog 12 #[x.val, .map (some m)] W fun e w' => e = .returned (.bool x.right) ∧ Hid (Fr (fun _ => False) W w') ∧
          w'.cell? ⟨wr.heap.size, 0, none⟩ = some (.int .i64 x.task) ∧ w'.cell? ⟨wr.heap.size, 1, none⟩ = some (.int .i64 x.ask) ∧ w'.cell? ⟨wr.heap.size, 2, none⟩ = some (str x.stage) ∧ w'.cell? ⟨wr.heap.size, 3, none⟩ = some (.int .i64 x.span)) := Lib.hid (by
        rintro W rfl
        refine (right_h x hxw _ m (((hI.out.map.fr hI.out.frw (fun x => x))).fr ((Fr.refl (fun _ => False) wr).alloc _) (fun x => x))).mono ?_
        rintro e w' ⟨rfl, hf⟩
        have hE : EvAt (wr.alloc (.cells #[Value.int .i64 x.task, .int .i64 x.ask, str x.stage, .int .i64 x.span] 24)) wr.heap.size x := ⟨by simp, by simp, by simp, by simp⟩
        have hE' := hE.fr hf
        exact ⟨rfl, Lib.hid hf, hE'.c0, hE'.c1, hE'.c2, hE'.c3⟩)
      have F0 := Lib.hid (Fr.refl (fun _ => False) wr)
      cases hxr : x.right with
      | false =>
        rw [hxr] at HRt
        go_wp2_with (go_at_call 12; refine (HRt.out _ rfl).mono ?_; rintro e w2 ⟨rfl, hf2, d0, d1, d2, d3⟩)
        go_ret2
        refine ⟨congrArg Ending.returned ?_, hI.out.fr0.trans (((Fr.refl (fun _ => False) wr).alloc _).trans hf2.out (fun _ _ x => x)) (fun _ _ x => x)⟩
        unfold printV
        rw [if_neg (fun h => by rw [List.all_eq_true] at h; have := h x hxm; rw [hxr] at this; cases this)]
        rfl
      | true =>
        rw [hxr] at HRt
        have hxl : x.stage.length ≤ 1000000000000000 := by have := (right_len hxw hxr).2; omega
        have hT : ((L.take j).flatMap Ev.line).length + x.line.length ≤ 140737488355328 := by
          have h1 := lines_len (L := L.take j) (fun y hy => HW.out y (List.mem_of_mem_take hy)) hj.out.2.1
          have h2 := (right_len hxw hxr).1
          rw [List.length_take] at h1
          omega
        have HLn := Lib.hid (fun (W : World) (hf : Fr (fun _ => False) wr W) => line_h x hxw hxl W (HL.out.fr (hI.out.fr0.trans hf (fun _ _ x => x))))
        have HWr := Lib.hid (fun (W : World) (hf : Fr (fun _ => False) wr W) => bld_write w1.heap.size w1.heap.size (Lib.byteCells ((L.take j).flatMap Ev.line)) ⟨x.line.toArray⟩ W (bld_fr hI.out.bld hf) (by
          rw [Lib.byteCells_length, size_mk]
          exact hT) (Nat.le_trans hI.out.bel.size hf.size))
        go_wp2_with (first
          | (go_at_call 12; refine (HRt.out _ rfl).mono ?_; rintro e w2 ⟨rfl, hf2, d0, d1, d2, d3⟩)
          | (go_at_call 14; refine (HLn.out _ ((F0.out.alloc _).trans hf2.out (fun _ _ x => x))).mono ?_; rintro e w3 ⟨rfl, hf3⟩; replace hf3 := Lib.hid hf3)
          | (go_at_call 13; refine (HWr.out _ (((F0.out.alloc _).trans hf2.out (fun _ _ x => x)).trans hf3.out (fun _ _ x => x))).mono ?_; rintro e w4 ⟨rfl, hb4, hl4, _⟩; replace hb4 := Lib.hid hb4; replace hl4 := Lib.hid hl4))
        go_roundg (gk - 1)
        case measure => have := hj.out.1; omega
        case rel =>
          refine ⟨j + 1, by go_num, Lib.hid ⟨by have := hj.out.1; omega, ?_, ?_⟩⟩
          · intro y hy
            have e : L.take (j + 1) = L.take j ++ [x] := by rw [List.take_add_one, hx]; rfl
            rw [e, List.mem_append] at hy
            rcases hy with hy | hy
            · exact hj.out.2.1 y hy
            · simp only [List.mem_singleton] at hy; subst hy; exact hxr
          · rw [flat_step Ev.line hx]
            have hI' := hI.out
            refine ⟨.inr ?_, ?_, hI'.map, hI'.lt, hI'.fr⟩
            · have := hb4.out
              rw [show Lib.byteCells (List.flatMap Ev.line (List.take j L) ++ x.line) = Lib.byteCells (List.flatMap Ev.line (List.take j L)) ++ Lib.strCells ⟨x.line.toArray⟩ from by simp [Lib.byteCells, Lib.strCells]]
              exact this
            · exact hI'.bel.trans ((((Fr.refl (fun _ => False) wr).alloc _).trans (hf2.out.trans hf3.out (fun _ _ x => x)) (fun _ _ x => x)).below hI'.bel.size (fun _ h => h.elim)) |>.trans hl4.out
    · have hall : L.all Ev.right = true := by
        rw [List.all_eq_true]
        intro y hy
        have := hj.out.2.1 y
        rw [List.take_of_length_le (by omega)] at this
        exact this hy
      have HS := Lib.hid (fun (W : World) (hW : W = wr) => Tryz.Builder_String_any_k w1.heap.size w1.heap.size ((L.take j).flatMap Ev.line) W (hW ▸ hj.out.2.2.bld) (hW ▸ hj.out.2.2.bel.size))
      go_wp2_with (go_at_call 15; refine (HS.out _ rfl).mono ?_; rintro e w5 ⟨rfl, _, hb5, _⟩)
      go_ret2
      have hfin : Fr (fun _ => False) w1 w5 := Below.fr (hj.out.2.2.bel.trans hb5) _
      refine ⟨congrArg Ending.returned ?_, hj.out.2.2.fr.trans hfin (fun _ _ x => x)⟩
      unfold printV
      rw [if_pos hall, List.take_of_length_le (by omega)]
      rfl
end Go.Proofs.YtcemhpdhcmlhlaaGreatDoor

/-
  trace.Parse: the word between two rounds. No program text walked here.
-/
namespace Go.Proofs.YtcemhpdhcmlhlaaGreatDoor
open Go.RowKit Go.Deep Go.Shelf

/-- the cells of Parse that no round writes -/
structure PaF (w0 : World) (s m : Nat) (W : World) : Prop where
  fr : Fr (fun _ => False) w0 W
  sz : s + 3 ≤ W.heap.size
  le : w0.heap.size + 3 ≤ s
  c5 : W.heap[s]? = some (.cells #[.map (some m)] 34 (0, 0))
  am : AllS W m
  lm : m < s
  gm : w0.heap.size + 3 ≤ m
/-- the results' cells -/
def PaR (w0 : World) (v : Value) (code n : Int) (W : World) : Prop :=
  W.heap[w0.heap.size]? = some (.cells #[v] 22 (0, 0)) ∧ W.heap[w0.heap.size + 1]? = some (.cells #[.int .i64 code] 25 (0, 0)) ∧ W.heap[w0.heap.size + 2]? = some (.cells #[.int .i64 n] 3 (0, 0))
/-- the events so far -/
def PaL (s : Nat) (L : List Ev) (W : World) : Prop :=
  ∃ a c, W.heap[s + 1]? = some (.cells #[.slice a L.length c] 22 (0, 0)) ∧ W.ownsRow (s + 3) 24 4 (.slice a L.length c) L.length (L.flatMap Ev.cells)

theorem heap_put_ne {W : World} {l k : Nat} {o : Obj} (h : k ≠ l) : (W.putObj l o).heap[k]? = W.heap[k]? := World.putObj_heap_other h
theorem Fr.putObj {S : Nat → Prop} {u v : World} (h : Fr S u v) {l : Nat} (o : Obj) (hl : u.heap.size ≤ l) : Fr S u (v.putObj l o) :=
  ⟨h.os, h.tape, h.output, by rw [show (v.putObj l o).heap.size = v.heap.size by simp [World.putObj]]; exact h.size, fun b hb hn => by
    rw [heap_put_ne (by omega)]; exact h.same b hb hn⟩

section
variable {w0 : World} {s m : Nat} {W W' : World}
theorem PaF.next {S : Nat → Prop} (h : PaF w0 s m W) (hf : Fr S W W') (hS : ∀ k, S k → s < k) : PaF w0 s m W' :=
  ⟨h.fr.trans hf (fun b hb x => by have := hS b x; have := h.le; omega), Nat.le_trans h.sz hf.size, h.le, hf.at h.c5 (fun x => by have := hS _ x; omega), h.am.fr hf (fun x => by have := hS _ x; have := h.lm; omega), h.lm, h.gm⟩
/-- the results' cells are written -/
theorem PaF.res {S : Nat → Prop} (h : PaF w0 s m W) (hf : Fr S W W') (hS : ∀ k, S k → w0.heap.size ≤ k ∧ k < w0.heap.size + 3) : PaF w0 s m W' :=
  ⟨h.fr.trans hf (fun b hb x => by have := hS b x; omega), Nat.le_trans h.sz hf.size, h.le, hf.at h.c5 (fun x => by have := hS _ x; have := h.le; omega), h.am.fr hf (fun x => by have := hS _ x; have := h.gm; omega), h.lm, h.gm⟩
theorem PaR.next {S : Nat → Prop} {v : Value} {c n : Int} (h : PaR w0 v c n W) (hf : Fr S W W') (hS : ∀ k, S k → w0.heap.size + 3 ≤ k) : PaR w0 v c n W' :=
  ⟨hf.at h.1 (fun x => by have := hS _ x; omega), hf.at h.2.1 (fun x => by have := hS _ x; omega), hf.at h.2.2 (fun x => by have := hS _ x; omega)⟩
/-- a frame that leaves the list -/
theorem PaL.next {S : Nat → Prop} {L : List Ev} (h : PaL s L W) (hf : Fr S W W') (hS : ∀ k, S k → k ≤ s ∨ k = s + 2) : PaL s L W' := by
  obtain ⟨a, c, h1, h2⟩ := h
  exact ⟨a, c, hf.at h1 (fun x => by have := hS _ x; omega), ownsRow_fr h2 hf (fun b x => by have := hS _ x; omega)⟩
theorem putFr (W : World) {l : Nat} {o o' : Obj} (_ : W.heap[l]? = some o) : Fr (fun k => k = l) W (W.putObj l o') :=
  ⟨rfl, rfl, rfl, by simp [World.putObj], fun b _ hn => heap_put_ne hn⟩
theorem PaL.put {L : List Ev} (h : PaL s L W) {l : Nat} {o o' : Obj} (hl : s + 3 ≤ l) (hh : W.heap[l]? = some o) (hc : o.isCells = false) : PaL s L (W.putObj l o') := by
  obtain ⟨a, c, h1, h2, h3⟩ := h
  refine ⟨a, c, (heap_put_ne (by omega)).trans h1, h2, ?_⟩
  rcases h3 with h3 | ⟨g, cap, cur, e1, e2, e3, e4⟩
  · exact .inl h3
  · refine .inr ⟨g, cap, cur, e1, e2, (heap_put_ne ?_).trans e3, e4⟩
    rintro rfl
    rw [e3] at hh
    cases hh
    cases hc
/-- between two rounds, x's having come -/
structure PaI (w0 : World) (s m : Nat) (pre : List Ln) (W : World) : Prop where
  f : PaF w0 s m W
  r : PaR w0 (.slice none 0 0) 0 0 W
  l : ∃ L : List Ev, pre.map (·.1) = L.map Ev.line ∧ (∀ x ∈ L, x.right = true) ∧ PaL s L W
/-- a line that is none: what Parse leaves with -/
structure PaX (w0 : World) (s m : Nat) (pre : List Ln) (W : World) : Prop where
  f : PaF w0 s m W
  p : ∃ (L : List Ev) (q : List (List UInt8)) (x : List UInt8), pre.map (·.1) = q ++ [x] ∧ q = L.map Ev.line ∧ (∀ x ∈ L, x.right = true) ∧ (∀ y : Ev, y.right = true → y.line ≠ x) ∧ PaR w0 (.slice none 0 0) 60 (q.length + 1) W
theorem abideI : Abide (s + 2) (s + 3) (PaI w0 s m) where
  put := fun pre W l o o' h hl ho hc => by
    obtain ⟨L, h1, h2, h3⟩ := h.l
    refine ⟨h.f.next (putFr W ho) (fun k e => by omega), h.r.next (putFr W ho) (fun k e => by have := h.f.le; omega), L, h1, h2, h3.put hl ho hc⟩
  set := fun pre W v h => by
    obtain ⟨L, h1, h2, h3⟩ := h.l
    have hf : Fr (fun k => k = s + 2) W (W.setCell (cellS (s + 2)) v) := (Fr.refl _ W).setCell _ _ (.inl rfl)
    exact ⟨h.f.next hf (fun k e => by omega), h.r.next hf (fun k e => by have := h.f.le; omega), L, h1, h2, h3.next hf (fun k e => .inr e)⟩
  drew := fun pre W h => by
    obtain ⟨L, h1, h2, h3⟩ := h.l
    have hf : Fr (fun _ => False) W W.drew := (Fr.refl _ W).drew
    exact ⟨h.f.next hf (fun k e => e.elim), h.r.next hf (fun k e => e.elim), L, h1, h2, h3.next hf (fun k e => e.elim)⟩
theorem abideX : Abide (s + 2) (s + 3) (PaX w0 s m) where
  put := fun pre W l o o' h hl ho hc => by
    obtain ⟨L, q, x, h1, h2, h3, h4, h5⟩ := h.p
    exact ⟨h.f.next (putFr W ho) (fun k e => by omega), L, q, x, h1, h2, h3, h4, h5.next (putFr W ho) (fun k e => by have := h.f.le; omega)⟩
  set := fun pre W v h => by
    obtain ⟨L, q, x, h1, h2, h3, h4, h5⟩ := h.p
    have hf : Fr (fun k => k = s + 2) W (W.setCell (cellS (s + 2)) v) := (Fr.refl _ W).setCell _ _ (.inl rfl)
    exact ⟨h.f.next hf (fun k e => by omega), L, q, x, h1, h2, h3, h4, h5.next hf (fun k e => by have := h.f.le; omega)⟩
  drew := fun pre W h => by
    obtain ⟨L, q, x, h1, h2, h3, h4, h5⟩ := h.p
    have hf : Fr (fun _ => False) W W.drew := (Fr.refl _ W).drew
    exact ⟨h.f.next hf (fun k e => e.elim), L, q, x, h1, h2, h3, h4, h5.next hf (fun k e => e.elim)⟩
end
/-- what lies elsewhere and is no cells is kept by a frame of cells -/
theorem keeps_fr {S : Nat → Prop} {W W' : World} (h : Fr S W W') (hS : ∀ k o, S k → W.heap[k]? = some o → o.isCells = true) : KeepsOthers W W' :=
  ⟨h.size, fun k o hk ho => h.at hk (fun x => by rw [hS k o x hk] at ho; cases ho)⟩
end Go.Proofs.YtcemhpdhcmlhlaaGreatDoor

/-
  trace.Parse, walked. No condition but that the tables lie.
-/
namespace Go.Proofs.YtcemhpdhcmlhlaaGreatDoor
open Go.RowKit Go.Deep Go.Shelf
attribute [local go_sem] Oper.semAt_some

/-- what Parse answers of a text that is not too long -/
def ParseIs (s : List UInt8) (B : Nat) (v : Value) (code n : Int) (W : World) : Prop :=
  (∃ L : List Ev, linesOf s = L.map Ev.line ∧ (∀ x ∈ L, x.right = true) ∧ code = 0 ∧ n = 0 ∧ W.ownsRow B 24 4 v L.length (L.flatMap Ev.cells)) ∨
  (∃ (L : List Ev) (x : List UInt8), L.map Ev.line ++ [x] <+: linesOf s ∧ (∀ x ∈ L, x.right = true) ∧ (∀ y : Ev, y.right = true → y.line ≠ x) ∧ v = .slice none 0 0 ∧ code = 60 ∧ n = L.length + 1)

theorem linesOf_len : ∀ l : List UInt8, (linesOf l).length ≤ l.length
  | [] => Nat.le_refl _
  | b :: l => by
    have := linesOf_len l
    unfold linesOf
    split
    · simp; omega
    · split
      next e => rw [e] at this; simp
      next e => rw [e] at this; simp at this ⊢; omega
theorem news4 {W : World} {b : Nat} {cs : List Value} {t : TypeId} (h : W.heap[b]? = some (.cells cs.toArray t (0, 0))) : ∀ (j : Nat) (u : Value), cs[j]? = some u → W.cell? ((⟨b, 0, none⟩ : Addr).add j) = some u := by
  intro j u hu
  have hadd : (⟨b, 0, none⟩ : Addr).add j = ⟨b, j, none⟩ := by unfold Addr.add; split <;> simp_all
  rw [hadd, cell_blk h j]
  simpa using hu
def Held (p : Prop) : Prop := p
theorem hold {p : Prop} (h : Held p) : p := h
theorem ev_info : (Tryz.prog.info? 24).map (fun i => (i.zero, i.size, i.bytes)) = some (some (.agg #[.int .i64 0, .int .i64 0, .string ⟨#[]⟩, .int .i64 0]), 4, 40) := by kernel_rfl
/-- what a body reads of a world with one block more -/
theorem paq {w W : World} {s n : Nat} {v u : Value} {c k : Int} (h : W.heap[s + 1]? = some (.cells #[v] n (0, 0))) (hr : PaR w u c k W) :
    (∀ o, (W.alloc o).cell? ⟨s + 1, 0, none⟩ = some v) ∧ (∀ o, (W.alloc o).frozen? ⟨s + 1, 0, none⟩ = false) ∧
    (∀ o, (W.alloc o).cell? ⟨w.heap.size, 0, none⟩ = some u) ∧ (∀ o, (W.alloc o).frozen? ⟨w.heap.size, 0, none⟩ = false) ∧
    (∀ o, (W.alloc o).cell? ⟨w.heap.size + 1, 0, none⟩ = some (.int .i64 c)) ∧ (∀ o, (W.alloc o).frozen? ⟨w.heap.size + 1, 0, none⟩ = false) ∧
    (∀ o, (W.alloc o).cell? ⟨w.heap.size + 1 + 1, 0, none⟩ = some (.int .i64 k)) ∧ (∀ o, (W.alloc o).frozen? ⟨w.heap.size + 1 + 1, 0, none⟩ = false) := by
  have e : ∀ (b : Nat) (o o' : Obj), W.heap[b]? = some o' → (W.alloc o).heap[b]? = some o' := fun b o o' hb => ((Fr.refl (fun _ => False) W).alloc o).at hb (fun x => x)
  exact ⟨fun o => cell_blk (e _ o _ h) 0, fun o => free_blk (e _ o _ h) 0, fun o => cell_blk (e _ o _ hr.1) 0, fun o => free_blk (e _ o _ hr.1) 0, fun o => cell_blk (e _ o _ hr.2.1) 0, fun o => free_blk (e _ o _ hr.2.1) 0, fun o => cell_blk (e _ o _ hr.2.2) 0, fun o => free_blk (e _ o _ hr.2.2) 0⟩

/-- what Parse leaves with, where a line is none -/
theorem stop_post {w W W4 : World} {s m : Nat} {pre : List Ln} {x : Ln} {L : List Ev} {a : Option Addr} {c : Nat} {n : Int} {A : Act} (hf : Fr (fun _ => False) W W4) (hIf : PaF w s m W) (hIr : PaR w (.slice none 0 0) 0 0 W)
    (hl1 : pre.map (·.1) = L.map Ev.line) (hl2 : ∀ x ∈ L, x.right = true) (hn : ∀ y : Ev, y.right = true → y.line ≠ x.1) (_ : W.heap[s + 1]? = some (.cells #[.slice a L.length c] 22 (0, 0))) (e : n = L.length + 1 := by rfl) :
    leftAs (s + 2) (PaI w s m) (fun c pre W => c = Code.ret ∧ PaX w s m pre W) (pre ++ [x]) W .ret A
      (((W4.drew.setCell ⟨w.heap.size, 0, none⟩ (.slice none 0 0)).setCell ⟨w.heap.size + 1, 0, none⟩ (.int .i64 60)).setCell ⟨w.heap.size + 1 + 1, 0, none⟩ (.int .i64 n)) := by
  have hb0 := hIf.le
  have hT : Fr (fun k => k = w.heap.size ∨ k = w.heap.size + 1 ∨ k = w.heap.size + 1 + 1) W (((W4.drew.setCell ⟨w.heap.size, 0, none⟩ (.slice none 0 0)).setCell ⟨w.heap.size + 1, 0, none⟩ (.int .i64 60)).setCell ⟨w.heap.size + 1 + 1, 0, none⟩ (.int .i64 n)) :=
    (((hf.no.drew).setCell _ _ (.inl (.inl rfl))).setCell _ _ (.inl (.inr (.inl rfl)))).setCell _ _ (.inl (.inr (.inr rfl)))
  have hR4 : PaR w (.slice none 0 0) 0 0 W4.drew := hIr.next (S := fun _ => False) hf.drew (fun _ x => x.elim)
  refine ⟨keeps_fr hT ?_, rfl, hIf.res hT (fun k hk => by omega), L, pre.map (·.1), x.1, by simp, hl1, hl2, hn, ?_, ?_, ?_⟩
  · intro k o hk ho
    rcases hk with rfl | rfl | rfl
    · rw [hIr.1] at ho; cases ho; rfl
    · rw [hIr.2.1] at ho; cases ho; rfl
    · rw [hIr.2.2] at ho; cases ho; rfl
  · rw [heap_setCell_ne (by show w.heap.size ≠ w.heap.size + 1 + 1; omega), heap_setCell_ne (by show w.heap.size ≠ w.heap.size + 1; omega), heap_setCell_at hR4.1]; rfl
  · rw [heap_setCell_ne (by show w.heap.size + 1 ≠ w.heap.size + 1 + 1; omega), heap_setCell_at ((heap_setCell_ne (by show w.heap.size + 1 ≠ w.heap.size; omega)).trans hR4.2.1)]; rfl
  · rw [heap_setCell_at ((heap_setCell_ne (by show w.heap.size + 1 + 1 ≠ w.heap.size + 1; omega)).trans ((heap_setCell_ne (by show w.heap.size + 1 + 1 ≠ w.heap.size; omega)).trans hR4.2.2)), e, hl1, List.length_map]; rfl
/-- the results, each in a cell -/
def plainT : TypeDesc → Bool
  | .struct _ => false
  | .array _ _ => false
  | _ => true
theorem load_plain {P : Program} {w : World} {t : TypeId} {a : Addr} {v : Value} {d : TypeDesc} (hu : P.underlying t = some d) (hd : plainT d = true) (hc : w.cell? a = some v) :
    (loadVar t a).run P w = .ok v w := by
  have hagg : (isAgg t).run P w = .ok false w := by
    unfold isAgg
    rw [Sem.run_bind, run_underlying hu w]
    cases d <;> simp_all [plainT]
  simp [loadVar, Sem.run_bind, hagg, hc]
theorem ret3 {P : Program} {fn : Func} {p q r : Tmp} {t u v : TypeId} (hres : fn.results = #[.cell p t, .cell q u, .cell r v]) {dt du dv : TypeDesc} (ht : P.underlying t = some dt) (hu : P.underlying u = some du) (hv : P.underlying v = some dv)
    (nt : plainT dt = true) (nu : plainT du = true) (nv : plainT dv = true)
    {tmps : Array Value} {w : World} {a b c : Addr} {x y z : Value} (ha : tmps[p]?.getD undef = .pointer (some a)) (hb : tmps[q]?.getD undef = .pointer (some b)) (hc : tmps[r]?.getD undef = .pointer (some c))
    (hx : w.cell? a = some x) (hy : w.cell? b = some y) (hz : w.cell? c = some z) : (results fn tmps).run P w = .ok (.tuple #[x, y, z]) w := by
  simp only [results, hres]
  simp only [Array.mapM_eq_mapM_toList]
  simp [Sem.run_bind, Result.andThen, ha, hb, hc, asAddr, load_plain ht nt hx, load_plain hu nu hy, load_plain hv nv hz]

set_option maxRecDepth 100000 in
set_option maxHeartbeats 4000000 in
theorem parse_in (n : Nat) (hn : 5 ≤ n) (s : List UInt8) (hs : s.length ≤ 1048576) (w : World) (hL : Laid w) :
    CallsIn Fence.wide n Tryz.prog 8 #[str s] w fun e w' => Fr (fun _ => False) w w' ∧ ∃ v code k, e = .returned (.tuple #[v, .int .i64 code, .int .i64 k]) ∧ ParseIs s w.heap.size v code k w' := by
  have hF1 : Fence.wide.fn 11 := trivial
  have hF2 : Fence.wide.fn 18 := trivial
  have hF3 : Fence.wide.fn 19 := trivial
  have h1 : 1 ≤ n := by omega
  have h2 : 1 ≤ n - 1 := by omega
  have h3 : 1 ≤ n - 1 - 1 := by omega
  have hro : Fence.wide.round = none := rfl
  have hle : ¬ ((s.length : Int) > 1048576) := by omega
  have HS := Lib.hid (fun (W : World) (hf : Fr (fun _ => False) w W) => stages_h W (hL.fr hf))
  have F0 := Lib.hid (Fr.refl (fun _ => False) w)
  refine callsIn_of_wp_marks Tryz.func8 rfl trivial ?_ rfl
  simp only [List.append_toArray, List.cons_append, List.nil_append, Tryz.ntmps8, List.size_toArray, List.length_cons, List.length_nil, Nat.reduceAdd, Nat.reduceSub, Array.replicate_succ, Array.replicate_zero, List.push_toArray]
  gi_wp2_with (first
    | (gi_at_call 11; refine CallsIn.mono (callsIn_wide.2 (HS.out _ (((F0.out.alloc _).alloc _).alloc _))) ?_; rintro e w1 ⟨m, rfl, hm1, hm2, hf1⟩; replace hm1 := Lib.hid hm1; replace hf1 := Lib.hid hf1)
    | (gi_at_call 18; refine CallsIn.mono (callsIn_wide.2 (lines_h _ _)) ?_; rintro e w2 ⟨rfl, rfl⟩))
  obtain ⟨W2, hW2⟩ : ∃ W2, W2 = ((w1.alloc (.cells #[.map (some m)] 34)).alloc (.cells #[.slice none 0 0] 22)).alloc (.cells #[str s] 9) := ⟨_, rfl⟩
  have hsz : W2.heap.size = w1.heap.size + 3 := by rw [hW2]; simp only [size_alloc]
  have hb : W2.heap[w1.heap.size + 2]? = some (.cells #[str s] 9 (0, 0)) := by rw [hW2, heap_alloc, if_pos (by simp only [size_alloc])]
  have hI0 : ∀ o o', PaI w w1.heap.size m [] ((W2.alloc o).alloc o') := by
    intro o o'
    have hw3 : w1.heap.size ≥ w.heap.size + 3 := by have := hf1.out.size; simp only [size_alloc] at this; exact this
    have hf : Fr (fun _ => False) w w1 := (((F0.out.alloc _).alloc _).alloc _).trans hf1.out (fun _ _ x => x)
    have hk : Fr (fun _ => False) w1 ((W2.alloc o).alloc o') := by
      rw [hW2]
      exact (((((Fr.refl _ w1).alloc _).alloc _).alloc _).alloc _).alloc _
    have hlm : m < w1.heap.size := by
      obtain ⟨_, h, _⟩ := hm1.out
      exact h.lt
    refine ⟨⟨hf.trans hk (fun _ _ x => x), ?_, hw3, ?_, hm1.out.fr hk (fun x => x), hlm, by simpa only [size_alloc] using hm2⟩, ⟨hk.at (hf1.out.at ?_ (fun x => x)) (fun x => x), hk.at (hf1.out.at ?_ (fun x => x)) (fun x => x), hk.at (hf1.out.at ?_ (fun x => x)) (fun x => x)⟩, [], rfl, by simp, none, 0, ?_, rfl, .inl ⟨rfl, rfl⟩⟩
    · simp only [size_alloc]; omega
    · rw [heap_alloc, if_neg (by simp only [size_alloc]; omega), heap_alloc, if_neg (by omega), hW2, heap_alloc, if_neg (by simp only [size_alloc]; omega), heap_alloc, if_neg (by simp only [size_alloc]; omega), heap_alloc, if_pos rfl]
    · rw [heap_alloc, if_neg (by simp only [size_alloc]; omega), heap_alloc, if_neg (by simp only [size_alloc]; omega), heap_alloc, if_pos rfl]
    · rw [heap_alloc, if_neg (by simp only [size_alloc]; omega), heap_alloc, if_pos (by simp only [size_alloc])]
    · rw [heap_alloc, if_pos (by simp only [size_alloc])]
    · rw [heap_alloc, if_neg (by simp only [size_alloc]; omega), heap_alloc, if_neg (by omega), hW2, heap_alloc, if_neg (by simp only [size_alloc]; omega), heap_alloc, if_pos (by simp only [size_alloc])]
      rfl
  rw [← hW2]
  refine range_cell (encs := lnEnc) (b := w1.heap.size + 2) (o0 := .cells #[str s] 9 (0, 0)) hro h1 (gf := 27) (lb := #[.pointer (some ⟨w1.heap.size + 2, 0, none⟩)]) rfl trivial (enters_of Tryz.func27 (by kernel_rfl) rfl)
    (lines1_h (n - 1) (by omega) _ s (by omega)) hb (fun _ => rfl) (PaI w w1.heap.size m) (fun c pre W => c = .ret ∧ PaX w w1.heap.size m pre W) ?hI ?hIx hI0
    (fun x => { tmps :=
        #[str s, undef, Value.pointer (some { block := w.heap.size, off := 0 }),
          Value.pointer (some { block := w.heap.size + 1, off := 0 }),
          Value.pointer (some { block := w.heap.size + 1 + 1, off := 0 }),
          Value.pointer (some { block := w1.heap.size, off := 0 }),
          Value.pointer (some { block := w1.heap.size + 1, off := 0 }), str x.1, undef, undef, str s,
          Value.int IntKind.i64 ↑s.length, Value.bool false, Value.map (some m), str s,
          Value.func (Fn.func 27) #[] #[Value.pointer (some { block := w1.heap.size + 1 + 1, off := 0 })], str x.1, undef, undef, undef, undef, undef, undef, undef, undef, undef, undef, undef, undef, undef, undef, undef, undef], defers := [] }) ?assign ?body ?done ?stop
  case hI => rw [hsz]; exact abideI
  case hIx =>
    intro c
    rw [hsz]
    exact ⟨fun s W l o o' h hl ho hc => ⟨h.1, abideX.put _ _ _ _ _ h.2 hl ho hc⟩, fun s W v h => ⟨h.1, abideX.set _ _ _ h.2⟩, fun s W h => ⟨h.1, abideX.drew _ _ h.2⟩⟩
  case assign =>
    intro l x W K hK
    simp only [lnEnc]
    gi_wp2
    exact hK
  case body =>
    intro l pre x W hI hlt
    obtain ⟨hIf, hIr, L, hl1, hl2, a, c, hc6, hrow⟩ := hI
    have hc5 := cell_blk hIf.c5 0
    have hLl : L.length < 1048576 := by
      have h1 := congrArg List.length hl1
      simp only [List.length_map] at h1
      have h2 := linesOf_len s
      omega
    have hL0 := hL.fr hIf.fr
    have hRd : Hid (Calls Tryz.prog 19 #[str x.1, .map (some m)] W fun e w' => ∃ y ok, e = .returned (.tuple #[.agg #[.int .i64 y.task, .int .i64 y.ask, str y.stage, .int .i64 y.span], .bool ok]) ∧ ReadIs x.1 y ok ∧ Fr (fun _ => False) W w') := Lib.hid (read_h x.1 x.2 W m hIf.am hL0)
    simp only [List.getElem?_toArray, List.getElem?_cons_zero] at hc5
    obtain ⟨i0, hi, hz0, hz1, hz2⟩ := info_parts ev_info
    gi_wp2_with (first
      | (gi_at_call 19; refine CallsIn.inRound l (CallsIn.mono (callsIn_wide.2 hRd.out) ?_); rintro e W3 ⟨y, ok, rfl, hy, hf3⟩; have hc6' := hf3.at hc6 (fun x => x); have hR3 := hIr.next hf3 (fun _ x => x.elim); have hQ := paq hc6' hR3; obtain ⟨q6, z6, q0, z0, q1, z1, q2, z2⟩ := hQ; replace hy := Lib.hid hy; replace hf3 := Lib.hid hf3; replace hc6' := Lib.hid hc6'; replace hR3 := Lib.hid hR3; cases ok)
      | (gi_at_builtin; refine hold ?_))
    · have hmx : Tryz.prog.follows .mixedOrders = true := by kernel_rfl
      obtain ⟨W4, hW4⟩ : ∃ W4, W4 = W3.alloc (.cells #[.int .i64 y.task, .int .i64 y.ask, str y.stage, .int .i64 y.span] 24) := ⟨_, rfl⟩
      rw [← hW4]
      have u6 : W4.cell? ⟨w1.heap.size + 1, 0, none⟩ = some (.slice a L.length c) := by rw [hW4]; exact q6 _
      have u0 : W4.cell? ⟨w.heap.size, 0, none⟩ = some (.slice none 0 0) := by rw [hW4]; exact q0 _
      have u1 : W4.cell? ⟨w.heap.size + 1, 0, none⟩ = some (.int .i64 0) := by rw [hW4]; exact q1 _
      have u2 : W4.cell? ⟨w.heap.size + 1 + 1, 0, none⟩ = some (.int .i64 0) := by rw [hW4]; exact q2 _
      have y0 : W4.frozen? ⟨w.heap.size, 0, none⟩ = false := by rw [hW4]; exact z0 _
      have y1 : W4.frozen? ⟨w.heap.size + 1, 0, none⟩ = false := by rw [hW4]; exact z1 _
      have y2 : W4.frozen? ⟨w.heap.size + 1 + 1, 0, none⟩ = false := by rw [hW4]; exact z2 _
      have hf4 : Hid (Fr (fun _ => False) W W4) := Lib.hid (by rw [hW4]; exact hf3.out.alloc _)
      have hz := hIf.le
      have n0 : (w1.heap.size + 1 = w.heap.size) = False := eq_false (by omega)
      have n1 : (w1.heap.size = w.heap.size) = False := eq_false (by omega)
      have n2 : (w1.heap.size = w.heap.size + 1) = False := eq_false (by omega)
      have m0 : (w.heap.size = w1.heap.size + 1) = False := eq_false (by omega)
      have m1 : (w.heap.size = w1.heap.size) = False := eq_false (by omega)
      have m2 : (w.heap.size + 1 = w1.heap.size) = False := eq_false (by omega)
      clear q6 z6 q0 z0 q1 z1 q2 z2 hW4 hf3 hc6' hR3
      gi_region_with_o (fail)
      all_goals gi_wp2
      all_goals exact stop_post hf4.out hIf hIr hl1 hl2 (fun z hz e => by cases (hy.out.all z hz e).1) hc6 (SX.wrap_fits (k := .i64) ⟨by omega, by omega⟩)
    · unfold Held
      refine wpListIn_append_own_at _ rfl _ _ 22 rfl (w1.heap.size + 3) 24 i0 _ 4 40 Tryz.underlying22 hi hz0 hz1 hz2 rfl (by decide) _ _ _ rfl (ownsRow_fr hrow ((hf3.out.alloc _).alloc _) (fun _ x => x.elim)) ⟨W3.heap.size + 1, 0, none⟩ 1 1 y.cells rfl rfl ?_ ?_ ?_ ?_ ?_ ?_
      · refine news4 (t := 24) ?_
        rw [heap_alloc, if_pos (by simp only [size_alloc])]
        rfl
      · intro u hu
        simp only [Ev.cells, List.mem_cons, List.not_mem_nil, or_false] at hu
        rcases hu with rfl | rfl | rfl | rfl <;> rfl
      · unfold maxLen; omega
      · omega
      · have := hIf.sz; have := hf3.out.size; simp only [size_alloc]; omega
      · intro v' w5 hown' hgrow hnil hloc
        obtain ⟨S, hS⟩ : ∃ S : Nat → Prop, S = fun k => some k = (Value.slice a L.length c).ownBlock := ⟨_, rfl⟩
        have hS1 : ∀ k, S k → w1.heap.size + 3 ≤ k ∧ ∀ o, W.heap[k]? = some o → o.isCells = true := by
          intro k hk
          rw [hS] at hk
          rcases hrow.2 with ⟨e, _⟩ | ⟨g, cap, cur, e, hg, hc, _⟩
          · injection e with e1; subst e1; cases hk
          · injection e with e1; subst e1
            injection hk with hk; subst hk
            exact ⟨hg, fun o ho => by rw [hc] at ho; cases ho; rfl⟩
        have hA : Fr S W w5 := ((hf3.out.alloc _).alloc _).no.trans (by rw [hS]; exact Fr.grownBy hgrow) (fun _ _ x => x)
        have hk6 := hA.at hc6 (fun x => by have := (hS1 _ x).1; omega)
        have u6 := cell_blk hk6 0
        have y6 := free_blk hk6 0
        simp only [List.getElem?_toArray, List.getElem?_cons_zero] at u6
        have hT : Fr (fun k => k = w1.heap.size + 1 ∨ S k) W (w5.setCell ⟨w1.heap.size + 1, 0, none⟩ v') := (hA.mono (fun _ _ x => .inr x)).setCell _ _ (.inl (.inl rfl))
        have hPI : PaI w w1.heap.size m (pre ++ [x]) (w5.setCell ⟨w1.heap.size + 1, 0, none⟩ v') := by
          refine ⟨hIf.next hT (fun k hk => ?_), hIr.next hT (fun k hk => ?_), L ++ [y], ?_, ?_, ?_⟩
          · rcases hk with hk | hk
            · omega
            · have := (hS1 _ hk).1; omega
          · have := hIf.le
            rcases hk with hk | hk
            · omega
            · have := (hS1 _ hk).1; omega
          · rw [List.map_append, List.map_append, hl1]
            simp [(hy.out.is rfl).2]
          · intro z hz
            rcases List.mem_append.1 hz with hz | hz
            · exact hl2 z hz
            · rw [List.mem_singleton.1 hz]; exact (hy.out.is rfl).1
          · have hrow6 := ownsRow_fr hown' ((Fr.refl (fun k => k = w1.heap.size + 1) w5).setCell ⟨w1.heap.size + 1, 0, none⟩ v' (.inl rfl)) (fun b hb => by omega)
            have hfl : (L ++ [y]).flatMap Ev.cells = L.flatMap Ev.cells ++ y.cells := by simp
            have hln : (L ++ [y]).length = L.length + 1 := by simp
            rw [← hfl, ← hln] at hrow6
            rcases hrow6.2 with ⟨_, e⟩ | ⟨g, cap, cur, e, _⟩
            · rw [hln] at e; omega
            · refine ⟨some ⟨g, 0, none⟩, cap, ?_, ?_⟩
              · rw [heap_setCell_at hk6, e]
                rfl
              · rw [← e]; exact hrow6
        replace hPI := Lib.hid hPI
        replace hT := Lib.hid hT
        obtain ⟨g', c', hv'⟩ : ∃ g' c', v' = .slice (some ⟨g', 0, none⟩) (L.length + 1) c' := by
          rcases hown'.2 with ⟨_, e⟩ | ⟨g, cap, cur, e, _⟩
          · omega
          · exact ⟨g, cap, e⟩
        clear hS hA hk6 hown' hgrow hnil hloc hrow
        subst hv'
        gi_wp2
        refine ⟨keeps_fr hT.out ?_, hT.out.same _ ?_ ?_, hPI.out⟩
        · intro k o hk ho
          rcases hk with hk | hk
          · subst hk; rw [hc6] at ho; cases ho; rfl
          · exact (hS1 _ hk).2 o ho
        · have := hIf.sz; omega
        · rintro (hk | hk)
          · omega
          · have := (hS1 _ hk).1; omega
  case done =>
    intro D xs W hS hI hK hD
    obtain ⟨hIf, hIr, L, hl1, hl2, a, c, hc6, hrow⟩ := hI
    have c6 := cell_blk hc6 0
    have r0 := cell_blk hIr.1 0
    have r1 := cell_blk hIr.2.1 0
    have r2 := cell_blk hIr.2.2 0
    have z0 := free_blk hIr.1 0
    have z1 := free_blk hIr.2.1 0
    have z2 := free_blk hIr.2.2 0
    simp only [List.getElem?_toArray, List.getElem?_cons_zero] at c6 r0 r1 r2
    gi_wp2
    have hb0 := hIf.le
    have hf5 : Fr (fun k => k = w.heap.size ∨ k = w.heap.size + 1 ∨ k = w.heap.size + 1 + 1) W (((W.setCell ⟨w.heap.size, 0, none⟩ (.slice a L.length c)).setCell ⟨w.heap.size + 1, 0, none⟩ (.int .i64 0)).setCell ⟨w.heap.size + 1 + 1, 0, none⟩ (.int .i64 0)) :=
      (((Fr.refl _ W).setCell _ _ (.inl (.inl rfl))).setCell _ _ (.inl (.inr (.inl rfl)))).setCell _ _ (.inl (.inr (.inr rfl)))
    obtain ⟨W5, hW5⟩ : ∃ W5, W5 = (((W.setCell ⟨w.heap.size, 0, none⟩ (.slice a L.length c)).setCell ⟨w.heap.size + 1, 0, none⟩ (.int .i64 0)).setCell ⟨w.heap.size + 1 + 1, 0, none⟩ (.int .i64 0)) := ⟨_, rfl⟩
    have b0 : W5.heap[w.heap.size]? = some (.cells #[.slice a L.length c] 22 (0, 0)) := by
      rw [hW5, heap_setCell_ne (by show w.heap.size ≠ w.heap.size + 1 + 1; omega), heap_setCell_ne (by show w.heap.size ≠ w.heap.size + 1; omega), heap_setCell_at hIr.1]; rfl
    have b1 : W5.heap[w.heap.size + 1]? = some (.cells #[.int .i64 0] 25 (0, 0)) := by
      rw [hW5, heap_setCell_ne (by show w.heap.size + 1 ≠ w.heap.size + 1 + 1; omega), heap_setCell_at ((heap_setCell_ne (by show w.heap.size + 1 ≠ w.heap.size; omega)).trans hIr.2.1)]; rfl
    have b2 : W5.heap[w.heap.size + 1 + 1]? = some (.cells #[.int .i64 0] 3 (0, 0)) := by
      rw [hW5, heap_setCell_at ((heap_setCell_ne (by show w.heap.size + 1 + 1 ≠ w.heap.size + 1; omega)).trans ((heap_setCell_ne (by show w.heap.size + 1 + 1 ≠ w.heap.size; omega)).trans hIr.2.2))]; rfl
    rw [← hW5] at hf5 ⊢
    have hK5 : W5.heap[D]? = some (.deferred (some [])) := hf5.at hK (by omega)
    refine ⟨by simp, .inl ⟨_, _, rfl, run_takeDeferred hK5, ?_⟩⟩
    refine ⟨_, ret3 (P := Tryz.prog) rfl Tryz.underlying22 Tryz.underlying25 Tryz.underlying3 rfl rfl rfl rfl rfl rfl (cell_blk ((heap_put_ne (by omega)).trans b0) 0) (cell_blk ((heap_put_ne (by omega)).trans b1) 0) (cell_blk ((heap_put_ne (by omega)).trans b2) 0), ?_⟩
    refine ⟨((hIf.fr.trans hf5 (fun k hk x => by omega))).putObj _ (by omega), _, _, _, rfl, .inl ⟨L, hS.symm.trans hl1, hl2, rfl, rfl, ?_⟩⟩
    have hP := (PaL.next (s := w1.heap.size) ⟨a, c, hc6, hrow⟩ hf5 (fun k hk => by omega)).put (l := D) (o' := .deferred none) (by omega) hK5 rfl
    obtain ⟨a2, c2, h1, h2⟩ := hP
    have h3 := (heap_put_ne (W := W5) (o := .deferred none) (l := D) (k := w1.heap.size + 1) (by omega)).trans (hf5.at hc6 (by omega))
    rw [h3] at h1
    have e : Value.slice a2 L.length c2 = .slice a L.length c := by
      injection h1 with h1; injection h1 with h1; injection h1 with h1; injection h1 with h1 _; exact h1.symm
    rw [e] at h2
    refine ⟨h2.1, h2.2.imp id ?_⟩
    rintro ⟨g, cap, cur, e1, e2, e3, e4⟩
    exact ⟨g, cap, cur, e1, by omega, e3, e4⟩
  case stop =>
    intro D pre W hp hX hK hD
    obtain ⟨_, hIf, L, q, x, e1, e2, e3, e4, hR⟩ := hX
    gi_wp2
    have hb0 := hIf.le
    refine ⟨by simp, .inl ⟨_, _, rfl, run_takeDeferred hK, ?_⟩⟩
    refine ⟨_, ret3 (P := Tryz.prog) rfl Tryz.underlying22 Tryz.underlying25 Tryz.underlying3 rfl rfl rfl rfl rfl rfl (cell_blk ((heap_put_ne (by omega)).trans hR.1) 0) (cell_blk ((heap_put_ne (by omega)).trans hR.2.1) 0) (cell_blk ((heap_put_ne (by omega)).trans hR.2.2) 0), ?_⟩
    refine ⟨hIf.fr.putObj _ (by omega), _, _, _, rfl, .inr ⟨L, x, ?_, e3, e4, rfl, rfl, ?_⟩⟩
    · rw [← e2, ← e1]; exact hp
    · rw [e2, List.length_map]
end Go.Proofs.YtcemhpdhcmlhlaaGreatDoor

/-
  The reference: an event read off a line. Condition: the line is not too long.
-/
namespace Go.Proofs.YtcemhpdhcmlhlaaGreatDoor
open Go.RowKit Go.Deep Go.Shelf

theorem str_info : (Tryz.prog.info? 9).map (fun i => (i.zero, i.size, i.bytes)) = some (some (.string ⟨#[]⟩), 1, 16) := by kernel_rfl
theorem str_extract (t : List UInt8) (a b : Nat) : (⟨t.toArray⟩ : ByteArray).extract a b = ⟨((t.take b).drop a).toArray⟩ := by
  apply ByteArray.ext
  simp only [ByteArray.data_extract]
  rw [← Array.toList_inj]
  simp [List.drop_take]
/-- an append, as it stands -/
def AppHeld (p : Prop) : Prop := p
theorem app_hold {P : Program} {ops : Array Oper} {Q : Exit → Act → World → Prop} {rest : List Oper} {a : Act} {w : World} {d : Option Tmp} {x y : Operand} {t u ty : TypeId} {ps : String} {af : Array _} {g : Option (Nat × Bool)}
    (h : AppHeld (wpList P ops Q ({ dst := d, op := .call { callee := .builtin .append, args := #[x, y], argTypes := #[t, u] }, type := ty, pos := ps, after := af, guard := g } :: rest) a w)) :
    wpList P ops Q ({ dst := d, op := .call { callee := .builtin .append, args := #[x, y], argTypes := #[t, u] }, type := ty, pos := ps, after := af, guard := g } :: rest) a w := h
/-- what the loop has cut off -/
structure EvI (t : List UInt8) (w : World) (i f k : Nat) (L : List (List UInt8)) (v : Value) (wr : World) : Prop where
  m : i + k = t.length + 1
  le : f ≤ i
  len : L.length ≤ i
  cut : i ≤ t.length → cutS 32 t = L ++ cutS 32 (t.drop f) ∧ (32 : UInt8) ∉ (t.take i).drop f
  all : t.length < i → cutS 32 t = L
  row : wr.ownsRow w.heap.size 9 1 v L.length (L.map str)
  fr : Fr (fun _ => False) w wr

theorem drop_take_snoc {α : Type} {t : List α} {j q : Nat} {b : α} (h : t[j]? = some b) (hq : q ≤ j) : (t.take (j + 1)).drop q = (t.take j).drop q ++ [b] := by
  rw [take_snoc h, List.drop_append_of_le_length]
  have := (List.getElem?_eq_some_iff.1 h).1
  rw [List.length_take]; omega
theorem drop_split {α : Type} {t : List α} {j q : Nat} {b : α} (h : t[j]? = some b) (hq : q ≤ j) : t.drop q = (t.take j).drop q ++ b :: t.drop (j + 1) := by
  obtain ⟨h1, e⟩ := List.getElem?_eq_some_iff.1 h
  conv => lhs; rw [← List.take_append_drop j t]
  rw [List.drop_append_of_le_length (by rw [List.length_take]; omega), List.drop_eq_getElem_cons h1, e]
theorem EvI.add {t : List UInt8} {w : World} {j q k : Nat} {L : List (List UInt8)} {v v' : Value} {wr w5 : World} (h : EvI t w j q k L v wr) (hj : j ≤ t.length) (he : j = t.length ∨ t[j]? = some 32)
    (row : w5.ownsRow w.heap.size 9 1 v' (L.length + 1) (L.map str ++ [str ((t.take j).drop q)])) (fr : Fr (fun _ => False) w w5) : EvI t w (j + 1) (j + 1) (k - 1) (L ++ [(t.take j).drop q]) v' w5 := by
  obtain ⟨c1, c2⟩ := h.cut hj
  refine ⟨by have := h.m; omega, Nat.le_refl _, by have := h.len; simp; omega, fun hl => ?_, fun hl => ?_, by simpa using row, fr⟩
  · rcases he with he | he
    · omega
    · refine ⟨?_, ?_⟩
      · rw [c1, drop_split he h.le, cutS_app _ c2]; simp
      · rw [List.drop_eq_nil_of_le (by rw [List.length_take]; omega)]; simp
  · have e : j = t.length := by omega
    subst e
    rw [List.take_length] at c2 ⊢
    rw [c1, cutS_none c2]
theorem EvI.skip {t : List UInt8} {w : World} {j q k : Nat} {L : List (List UInt8)} {v : Value} {wr : World} {b : UInt8} (h : EvI t w j q k L v wr) (hb : t[j]? = some b) (hne : b ≠ 32) : EvI t w (j + 1) q (k - 1) L v wr := by
  have hl := (List.getElem?_eq_some_iff.1 hb).1
  obtain ⟨c1, c2⟩ := h.cut (by omega)
  refine ⟨by have := h.m; omega, by have := h.le; omega, by have := h.len; omega, fun _ => ⟨c1, ?_⟩, fun hl => by omega, h.row, h.fr⟩
  rw [drop_take_snoc hb h.le, List.mem_append, List.mem_singleton]
  rintro (h | h)
  · exact c2 h
  · exact hne h.symm
theorem Fr.owned {w wr w5 : World} {v : Value} {e : TypeId} {sz n : Nat} {cs : List Value} (h : Fr (fun _ => False) w wr) (row : wr.ownsRow w.heap.size e sz v n cs) (hg : Fr (fun k => some k = v.ownBlock) wr w5) : Fr (fun _ => False) w w5 := by
  refine h.trans hg fun b hb x => ?_
  rcases row.2 with ⟨e1, _⟩ | ⟨g, cap, cur, e1, hgb, _⟩
  · rw [e1] at x; cases x
  · rw [e1] at x
    injection x with x
    subst x
    exact absurd hb (by omega)

theorem keep5 {W : World} {n b : Nat} (h : b ≠ n) {a0 a1 a2 a3 : Value} {i : Nat} : ((((W.setCell ⟨n, 0, none⟩ a0).setCell ⟨n, 1, none⟩ a1).setCell ⟨n, 2, none⟩ a2).setCell ⟨n, 3, none⟩ a3).cell? ⟨b, i, none⟩ = W.cell? ⟨b, i, none⟩ := by
  unfold World.cell?
  rw [heap_setCell_ne h, heap_setCell_ne h, heap_setCell_ne h, heap_setCell_ne h]
theorem ev_end {w W : World} {t : List UInt8} {X : Ev} {ok : Bool} {ts : Array Value} (he : evR t = (X, ok)) (hres : W.heap[w.heap.size]? = some (.cells #[.int .i64 0, .int .i64 0, .string ⟨#[]⟩, .int .i64 0] 24 (0, 0))) (hf : Fr (fun _ => False) w W)
    (hp : ts.getD 2 undef = .pointer (some ⟨w.heap.size, 0, none⟩) := by rfl) (hu : ts.getD 3 undef = .bool ok := by rfl) :
    bodyPost Tryz.prog Tryz.f20 (fun e w' => e = Ending.returned (.tuple #[(evR t).1.val, .bool (evR t).2]) ∧ Fr (fun _ => False) w w') .ret { tmps := ts, defers := [] }
      ((((W.drew.setCell ⟨w.heap.size, 0, none⟩ (.int .i64 X.task)).setCell ⟨w.heap.size, 1, none⟩ (.int .i64 X.ask)).setCell ⟨w.heap.size, 2, none⟩ (str X.stage)).setCell ⟨w.heap.size, 3, none⟩ (.int .i64 X.span)) := by
  refine bodyPost_ret (ret_cell rfl rfl (put4 (W := W.drew) hres _ _ _ _) hp) rfl ?_
  refine ⟨by rw [he, hu]; rfl, fr4 hf.drew (Nat.le_refl _) _ _ _ _⟩

namespace SX
/-- is it a stage? -/
noncomputable def spKn : Spec := fun args h n K => match args with
  | [x] => (match x with
    | .s t => K true (.b (known t.data.toList)) h n
    | _ => .fail 711)
  | _ => .fail 712
theorem spKn_ok (𝔅 : BigRep) : SpecEnters Tryz.prog 𝔅 16 spKn where
  enter := enter_of Tryz.func16 (bodyOf_eq (by kernel_rfl)) (by kernel_rfl)
  calls := by
    intro C Q args h n K hB hk ρ w vs hv hH hbd
    unfold spKn at hk
    split at hk
    next x =>
      split at hk
      next s =>
        obtain ⟨v, e1, hx⟩ := hv.one
        simp only [SV.Rel] at hx
        subst hx
        have e2 : vs = #[str s.data.toList] := by rw [← Array.toList_inj, e1]
        subst e2
        refine (refKnown_h s.data.toList w).mono ?_
        rintro e w' ⟨rfl, rfl⟩
        exact ⟨true, _, .b (known s.data.toList), h, n, ρ, rfl, by simp only [SV.Rel], hH, .refl _, hbd, hk⟩
      · exact hk.elim
    · exact hk.elim
noncomputable def tailA : All := allP Tryz.prog [(16, spKn)]
noncomputable def tailE : Env := tailA.env (tailA.inl 2) {}
theorem tailE_ok (𝔅 : BigRep) : EnvOk Tryz.prog 𝔅 tailE := AllOk.env (allP_ok fit (cons_ok (.inl (spKn_ok 𝔅)) nil_ok)) ((allP_ok fit (cons_ok (.inl (spKn_ok 𝔅)) nil_ok)).inl 2) {}
noncomputable def tail0 : Slots := sset (sset (sset (dark 72) 2 (.p 1 (.c 0))) 3 .ff) 7 (.p 2 (.c 0))
noncomputable def tailC : Code := regionAt 12 (bodyOf Tryz.f20)
def evS (a b d : Int) (c : ByteArray) : List SV := [.i .i64 a, .i .i64 b, .s c, .i .i64 d]
def ev0S : List SV := [.l .i64 0, .l .i64 0, .t [], .l .i64 0]
def tailH (a b d : Int) (c : ByteArray) : Heap := [(2, .cells 24 (evS a b d c)), (1, .cells 24 (evS a b d c))]
noncomputable def askR (R : Ex → SV → SV → Heap → Prop) : Kont := fun e st => noD st (.need (R e (sget st.tm 2) (sget st.tm 3) st.hp) .stop)
noncomputable def tailT (a b d : Int) (c : ByteArray) (R : Ex → SV → SV → Heap → Prop) : Tree :=
  exC tailE tailC 0 (askR R) ⟨tail0, [(2, .cells 24 (evS a b d c)), (1, .cells 24 ev0S)], 3, []⟩
set_option maxRecDepth 100000 in
theorem tail_tree (a b d : Int) (c : ByteArray) (R : Ex → SV → SV → Heap → Prop) : tailT a b d c R =
    .need True (.split (decide (0 ≤ a)) (.need True (.split (decide (-1 ≤ b)) (.need True (.split (decide (0 ≤ d))
      (.need (a = a ∧ b = b ∧ c = c ∧ d = d ∧ True) (.need (R .n (.p 1 (.c 0)) (.b (known c.data.toList)) (tailH a b d c)) .stop))
      (.need (R .n (.p 1 (.c 0)) .ff (tailH a b d c)) .stop)))
      (.need (R .n (.p 1 (.c 0)) .ff (tailH a b d c)) .stop)))
      (.need (R .n (.p 1 (.c 0)) .ff (tailH a b d c)) .stop)) := by kernel_rfl
def okOf (a b d : Int) (c : ByteArray) : Bool := decide (0 ≤ a) && (decide (-1 ≤ b) && (decide (0 ≤ d) && known c.data.toList))
def tailR (a b d : Int) (c : ByteArray) : Ex → SV → SV → Heap → Prop := fun e p o h => e = .n ∧ p = .p 1 (.c 0) ∧ (o = .b (okOf a b d c) ∨ o = .ff ∧ okOf a b d c = false) ∧ h = tailH a b d c
set_option maxRecDepth 100000 in
theorem tail_den (a b d : Int) (c : ByteArray) (Q : Ex → St → Prop) : (tailT a b d c (tailR a b d c)).den Q := by
  rw [tail_tree]
  refine ⟨trivial, fun _ => ⟨fun hA => ⟨trivial, fun _ => ⟨fun hB => ⟨trivial, fun _ => ⟨fun hD => ⟨⟨rfl, rfl, rfl, rfl, trivial⟩, fun _ => ⟨⟨rfl, rfl, .inl ?_, rfl⟩, fun _ => trivial⟩⟩, fun hD => ⟨⟨rfl, rfl, .inr ⟨rfl, ?_⟩, rfl⟩, fun _ => trivial⟩⟩⟩, fun hB => ⟨⟨rfl, rfl, .inr ⟨rfl, ?_⟩, rfl⟩, fun _ => trivial⟩⟩⟩, fun hA => ⟨⟨rfl, rfl, .inr ⟨rfl, ?_⟩, rfl⟩, fun _ => trivial⟩⟩⟩
  · unfold okOf; rw [hA, hB, hD]; rfl
  · unfold okOf; rw [hA, hB, hD]; rfl
  · unfold okOf; rw [hA, hB]; rfl
  · unfold okOf; rw [hA]; rfl
set_option maxRecDepth 100000 in
/-- the last region of event -/
theorem tail_h {a b d : Int} {c : List UInt8} {w : World} {g1 g2 : Nat} (h1 : w.heap[g1]? = some (.cells #[.int .i64 0, .int .i64 0, .string ⟨#[]⟩, .int .i64 0] 24 (0, 0))) (h2 : w.heap[g2]? = some (.cells #[.int .i64 a, .int .i64 b, str c, .int .i64 d] 24 (0, 0))) (hne : g1 ≠ g2)
    {A : Act} (hl : A.tmps.size = 72) (hd : A.defers = []) (s2 : A.tmps.toList.getD 2 undef = .pointer (some ⟨g1, 0, none⟩)) (s3 : A.tmps.toList.getD 3 undef = .bool false) (s7 : A.tmps.toList.getD 7 undef = .pointer (some ⟨g2, 0, none⟩)) {K : Act → World → Prop} {Q : Exit → Act → World → Prop}
    (hK : ∀ (A' : Act) (w' : World), A'.defers = [] → A'.tmps.toList.getD 2 undef = .pointer (some ⟨g1, 0, none⟩) → A'.tmps.toList.getD 3 undef = .bool (okOf a b d ⟨c.toArray⟩) → w'.heap[g1]? = some (.cells #[.int .i64 a, .int .i64 b, str c, .int .i64 d] 24 (0, 0)) → Fr (fun b => b = g1 ∨ b = g2) w w' → K A' w') :
    tailC.wp Tryz.prog (Exit.then K Q) A w := by
  have hden := tail_den a b d ⟨c.toArray⟩ (fun _ _ => False)
  have hh := mid2 h1 h2 hne (l1 := ev0S) (l2 := evS a b d ⟨c.toArray⟩) (.cons (by simp only [SV.Rel]) (.cons (by simp only [SV.Rel]) (.cons (by simp only [SV.Rel]; rfl) (.cons (by simp only [SV.Rel]) .nil)))) (.cons (by simp only [SV.Rel]) (.cons (by simp only [SV.Rel]) (.cons (by simp only [SV.Rel]) (.cons (by simp only [SV.Rel]) .nil)))) (fun _ _ _ => False)
  have ht : RelS (ren2 g1 g2) tail0 A.tmps.toList := by
    have h0 := dark_rel (ren2 g1 g2) A.tmps.toList
    rw [Array.length_toList, hl] at h0
    exact ((h0.know 2 (x := .p 1 (.c 0)) (by simp only [SV.Rel]; exact ⟨g1, rfl, s2⟩)).know 3 (x := .ff) (by simp only [SV.Rel]; exact s3)).know 7 (x := .p 2 (.c 0)) (by simp only [SV.Rel]; exact ⟨g2, rfl, s7⟩)
  refine exC_snd (C := ⟨w, [rest2 w g1 g2], fun _ _ _ => False⟩) (tailE_ok _) tailC 0 (askR (tailR a b d ⟨c.toArray⟩)) _ hden (ren2 g1 g2) (ren2 g1 g2) A w ⟨hh, ht, by rw [hd]; rfl, fun b hb => ?_, .refl _⟩ _ ?_
  · unfold ren2
    have hb : 3 ≤ b := hb
    rw [if_neg (by omega), if_neg (by omega)]
  · intro e ex st' ρ' A' w' hx _ H' hk'
    obtain ⟨hdf, ⟨rfl, q2, q3, q4⟩, _⟩ := noD_snd hk'
    have hx : ex = .normal := hx
    subst hx
    have hd' := H'.df
    rw [hdf] at hd'
    have hh' := H'.hp
    rw [q4] at hh'
    have k1 : ρ' 1 = some g1 := H'.le _ _ rfl
    have k2 : ρ' 2 = some g2 := H'.le _ _ rfl
    obtain ⟨hfr, cs, hb, hr⟩ := mid2_fr hh' k1 k2 rfl rfl
    have r2 := H'.tm.get 2
    rw [q2] at r2
    simp only [SV.Rel] at r2
    obtain ⟨g, hg, r2⟩ := r2
    rw [k1] at hg
    cases hg
    have r3 := H'.tm.get 3
    refine hK A' w' hd' r2 ?_ ?_ hfr
    · rcases q3 with q3 | ⟨q3, e⟩
      · rw [q3] at r3; simp only [SV.Rel] at r3; exact r3
      · rw [q3] at r3; simp only [SV.Rel] at r3; rw [e]; exact r3
    · rw [hb]
      simp only [evS, RelL, SV.Rel] at hr
      obtain ⟨v1, l1, e1, rfl, v2, l2, rfl, rfl, v3, l3, rfl, rfl, v4, l4, rfl, rfl, rfl⟩ := hr
      rw [show cs = #[.int .i64 a, .int .i64 b, str c, .int .i64 d] from by rw [← Array.toList_inj, e1]]
end SX

set_option maxRecDepth 100000 in
set_option maxHeartbeats 4000000 in
theorem refEvent_h (t : List UInt8) (ht : t.length ≤ 1048576) (w : World) :
    Calls Tryz.prog 20 #[str t] w fun e w' => e = .returned (.tuple #[(evR t).1.val, .bool (evR t).2]) ∧ Fr (fun _ => False) w w' := by
  obtain ⟨i0, hi, hz0, hz1, hz2⟩ := info_parts str_info
  have hi := Lib.hid hi
  have hz0 := Lib.hid hz0
  have hz1 := Lib.hid hz1
  have hz2 := Lib.hid hz2
  go_enter Tryz.func20, Tryz.ntmps20
  go_wp2
  obtain ⟨w0, hw0⟩ : ∃ w0, w0 = w.alloc (.cells #[.int .i64 0, .int .i64 0, .string ⟨#[]⟩, .int .i64 0] 24) := ⟨_, rfl⟩
  rw [← hw0]
  go_loopg [4, 5, 6] (t.length + 1) (fun k v f i wr => ∃ (j q : Nat) (L : List (List UInt8)), i = .int .i64 j ∧ f = .int .i64 q ∧ Hid (EvI t w0 j q k L v wr))
  case atStart => exact ⟨0, 0, [], rfl, rfl, Lib.hid ⟨by simp, by simp, by simp, fun _ => ⟨by simp, by simp⟩, fun h => by omega, .inl ⟨rfl, rfl⟩ |> fun h => ⟨by simp, h⟩, Fr.refl _ _⟩⟩
  case round =>
    obtain ⟨j, q, L, rfl, rfl, hj⟩ := hrel
    rcases (by omega : j = t.length ∨ j < t.length ∨ t.length < j) with h | h | h
    · subst h
      have hl : (t.length : Int) ≤ 1048576 := by omega
      have hq : q ≤ t.length := hj.out.le
      have hLl := hj.out.len
      go_wp2_with (at_builtin; refine app_hold ?_)
      unfold AppHeld
      simp only [str_extract]
      refine wpList_append_own_at _ rfl _ _ 70 rfl w0.heap.size 9 i0 _ 1 16 Tryz.underlying70 hi.out hz0.out hz1.out hz2.out rfl (by decide) _ _ _ rfl (ownsRow_fr hj.out.row ((Fr.refl (fun _ => False) wr).alloc _) (fun _ x => x.elim)) ⟨wr.heap.size, 0, none⟩ 1 1 [str ((t.take t.length).drop q)] rfl rfl (news4 (t := 9) (by rw [heap_alloc, if_pos rfl])) ?_ ?_ ?_ ?_ ?_
      · intro u hu
        simp only [List.mem_singleton] at hu
        subst hu; rfl
      · unfold maxLen; omega
      · omega
      · have := hj.out.fr.size; simp only [size_alloc]; omega
      · intro v' w5 hown' hgrow _ _
        have hI := Lib.hid (hj.out.add (by omega) (.inl rfl) hown' (Fr.owned (hj.out.fr.alloc _) (ownsRow_fr hj.out.row ((Fr.refl (fun _ => False) wr).alloc _) (fun _ x => x.elim)) (Fr.grownBy hgrow)))
        clear hown' hgrow
        go_wp2
        go_roundg (gk - 1)
        case measure => have := hj.out.m; omega
        case rel => exact ⟨t.length + 1, t.length + 1, _, by go_num, by go_num, hI⟩
    · obtain ⟨b, hb⟩ : ∃ b, t[j]? = some b := ⟨_, List.getElem?_eq_getElem h⟩
      have hbs : j < (⟨t.toArray⟩ : ByteArray).size := by rw [size_mk]; exact h
      have hb0 := byte_at hb hbs
      have hl : (j : Int) < t.length := by omega
      have hne : ((j : Int) = t.length) = False := eq_false (by omega)
      have hl2 : (t.length : Int) ≤ 1048576 := by omega
      replace hb := Lib.hid hb
      by_cases h32 : b = 32
      · subst h32
        have hq : q ≤ j := hj.out.le
        have hLl := hj.out.len
        go_wp2_with (at_builtin; refine app_hold ?_)
        unfold AppHeld
        simp only [str_extract]
        refine wpList_append_own_at _ rfl _ _ 70 rfl w0.heap.size 9 i0 _ 1 16 Tryz.underlying70 hi.out hz0.out hz1.out hz2.out rfl (by decide) _ _ _ rfl (ownsRow_fr hj.out.row ((Fr.refl (fun _ => False) wr).alloc _) (fun _ x => x.elim)) ⟨wr.heap.size, 0, none⟩ 1 1 [str ((t.take j).drop q)] rfl rfl (news4 (t := 9) (by rw [heap_alloc, if_pos rfl])) ?_ ?_ ?_ ?_ ?_
        · intro u hu
          simp only [List.mem_singleton] at hu
          subst hu; rfl
        · unfold maxLen; omega
        · omega
        · have := hj.out.fr.size; simp only [size_alloc]; omega
        · intro v' w5 hown' hgrow _ _
          have hI := Lib.hid (hj.out.add (by omega) (.inr hb.out) hown' (Fr.owned (hj.out.fr.alloc _) (ownsRow_fr hj.out.row ((Fr.refl (fun _ => False) wr).alloc _) (fun _ x => x.elim)) (Fr.grownBy hgrow)))
          clear hown' hgrow
          go_wp2
          go_roundg (gk - 1)
          case measure => have := hj.out.m; omega
          case rel => exact ⟨j + 1, j + 1, _, by go_num, by go_num, hI⟩
      · have hn : ((b.toNat : Int) == 32) = false := by
          have : b.toNat ≠ 32 := fun e => h32 (UInt8.toNat_inj.1 e)
          simp only [beq_eq_false_iff_ne, ne_eq]; omega
        have hI := Lib.hid (hj.out.skip hb.out h32)
        go_wp2
        go_roundg (gk - 1)
        case measure => have := hj.out.m; omega
        case rel => exact ⟨j + 1, q, _, by go_num, rfl, hI⟩
    · have hcut := hj.out.all h
      obtain ⟨g, cap, cur, hv, hgB, hgh⟩ : ∃ g cap cur, u4 = .slice (some ⟨g, 0, none⟩) L.length cap ∧ w0.heap.size ≤ g ∧ wr.heap[g]? = some (.cells cur 9 (0, 0)) := by
        rcases hj.out.row.2 with ⟨_, e⟩ | ⟨g, cap, cur, e, h1, h2, _⟩
        · exact absurd (hcut.trans (List.eq_nil_of_length_eq_zero e)) (cutS_ne _ _)
        · exact ⟨g, cap, cur, e, h1, h2⟩
      subst hv
      have hres : Hid (wr.heap[w.heap.size]? = some (.cells #[.int .i64 0, .int .i64 0, .string ⟨#[]⟩, .int .i64 0] 24 (0, 0))) := Lib.hid (hj.out.fr.at (by rw [hw0, heap_alloc, if_pos rfl]) (fun x => x))
      have hfr : Hid (Fr (fun _ => False) w wr) := Lib.hid ((by rw [hw0]; exact (Fr.refl _ w).alloc _ : Fr (fun _ => False) w w0).trans hj.out.fr (fun _ _ x => x))
      have hrd := Lib.hid (ownsRow_rd hj.out.row)
      have z0 := free_blk hres.out 0
      have z1 := free_blk hres.out 1
      have z2 := free_blk hres.out 2
      have z3 := free_blk hres.out 3
      have r0 : wr.cell? ⟨w.heap.size, 0, none⟩ = some (.int .i64 0) := cell_blk hres.out 0
      have r1 : wr.cell? ⟨w.heap.size, 1, none⟩ = some (.int .i64 0) := cell_blk hres.out 1
      have r2 : wr.cell? ⟨w.heap.size, 2, none⟩ = some (.string ⟨#[]⟩) := cell_blk hres.out 2
      have r3 : wr.cell? ⟨w.heap.size, 3, none⟩ = some (.int .i64 0) := cell_blk hres.out 3
      have hlj : (t.length : Int) < (j : Int) := by omega
      by_cases h4 : L.length = 4
      · obtain ⟨a, b, c, d, rfl⟩ : ∃ a b c d, L = [a, b, c, d] := by
          match L, h4 with
          | [a, b, c, d], _ => exact ⟨a, b, c, d, rfl⟩
        have hev : Hid (evR t = (⟨numR a, numR b, c, numR d⟩, decide (0 ≤ numR a) && (decide (-1 ≤ numR b) && (decide (0 ≤ numR d) && known c)))) := Lib.hid (by
          unfold evR
          rw [hcut])
        have hce : ∀ k u, ([a, b, c, d].map str)[k]? = some u → wr.cell? ⟨g, k, none⟩ = some u := by
          intro k u hu
          obtain ⟨a', c', e1, _, _, _, h5⟩ := hrd.out
          injection e1 with e1 _ _
          subst e1
          obtain ⟨ad, e2, h6⟩ := h5 k u hu
          injection e2 with e2
          subst e2
          have e3 : (⟨g, 0, none⟩ : Addr).add k = ⟨g, k, none⟩ := by unfold Addr.add; split <;> simp_all
          rw [e3] at h6
          exact h6
        have e0 := hce 0 _ rfl
        have e1 := hce 1 _ rfl
        have e2 := hce 2 _ rfl
        have e3 := hce 3 _ rfl
        clear hce hrd hcut hgh
        have HA := Lib.hid (fun (p : List UInt8) (W : World) => refNumber_h p W)
        go_wp2
        obtain ⟨W1, hW1⟩ : ∃ W1, W1 = (wr.alloc (.cells #[.int .i64 (numR a), .int .i64 (numR b), str c, .int .i64 (numR d)] 24)).drew := ⟨_, rfl⟩
        go_cut [7] (fun p W => p = .pointer (some ⟨wr.heap.size, 0, none⟩) ∧ W = W1)
        case first =>
          go_region_held3 (fun w' => w'.cell? ⟨g, 0, none⟩ = some (str a) ∧ w'.cell? ⟨g, 1, none⟩ = some (str b) ∧ w'.cell? ⟨g, 2, none⟩ = some (str c) ∧ w'.cell? ⟨g, 3, none⟩ = some (str d)) (go_keep) ((go_at_call 32; refine (HA.out _ _).mono ?_; rintro e w1 ⟨rfl, rfl⟩))
          all_goals go_wp2
          all_goals go_meet
          all_goals exact ⟨rfl, hW1.symm⟩
        case rest =>
          obtain ⟨rfl, rfl⟩ := hcut
          have hf1 : Hid (Fr (fun _ => False) wr wc) := Lib.hid (by rw [hW1]; exact ((Fr.refl _ wr).alloc _).drew)
          have hp : Hid (wc.heap[wr.heap.size]? = some (.cells #[.int .i64 (numR a), .int .i64 (numR b), str c, .int .i64 (numR d)] 24 (0, 0))) := Lib.hid (by rw [hW1]; show (World.alloc wr _).heap[wr.heap.size]? = _; rw [heap_alloc, if_pos rfl])
          have hne : (wr.heap.size = w.heap.size) = False := eq_false (by have := lt_blk hres.out; omega)
          have hne' : (w.heap.size = wr.heap.size) = False := eq_false (by have := lt_blk hres.out; omega)
          have hres0 := hres
          replace hres : Hid (wc.heap[w.heap.size]? = some (.cells #[.int .i64 0, .int .i64 0, .string ⟨#[]⟩, .int .i64 0] 24 (0, 0))) := Lib.hid (hf1.out.at hres.out (fun x => x))
          replace hfr : Hid (Fr (fun _ => False) w wc) := Lib.hid (hfr.out.trans hf1.out (fun _ _ x => x))
          clear e0 e1 e2 e3 z0 z1 z2 z3 r0 r1 r2 r3 HA hW1 hw0 hj hf1
          have HK := Lib.hid (fun (W : World) => refKnown_h c W)
          have hn5 := Lib.hid (show wr.heap.size ≠ w.heap.size from by have := lt_blk hres.out; have := hp; intro e; rw [e] at hne; simp at hne)
          have y0 : wc.cell? ⟨wr.heap.size, 0, none⟩ = some (.int .i64 (numR a)) := cell_blk hp.out 0
          have y1 : wc.cell? ⟨wr.heap.size, 1, none⟩ = some (.int .i64 (numR b)) := cell_blk hp.out 1
          have y2 : wc.cell? ⟨wr.heap.size, 2, none⟩ = some (str c) := cell_blk hp.out 2
          have y3 : wc.cell? ⟨wr.heap.size, 3, none⟩ = some (.int .i64 (numR d)) := cell_blk hp.out 3
          have r0 : wc.cell? ⟨w.heap.size, 0, none⟩ = some (.int .i64 0) := cell_blk hres.out 0
          have z0 := free_blk hres.out 0
          have r1 : wc.cell? ⟨w.heap.size, 1, none⟩ = some (.int .i64 0) := cell_blk hres.out 1
          have z1 := free_blk hres.out 1
          have r2 : wc.cell? ⟨w.heap.size, 2, none⟩ = some (.string ⟨#[]⟩) := cell_blk hres.out 2
          have z2 := free_blk hres.out 2
          have r3 : wc.cell? ⟨w.heap.size, 3, none⟩ = some (.int .i64 0) := cell_blk hres.out 3
          have z3 := free_blk hres.out 3
          clear y0 y1 y2 y3 r0 r1 r2 r3 z0 z1 z2 z3
          go_wp2
          refine SX.tail_h (a := numR a) (b := numR b) (d := numR d) (c := c) hres.out hp.out (by simpa using hne') rfl rfl rfl rfl rfl ?_
          intro A' w' hd' t2 t3 hb' hfr'
          refine (show ∀ (a : Act) (w : World), Code.wp Tryz.prog Code.ret _ a w → _ from by assumption) _ _ ?_
          refine wp_ret ?_
          refine bodyPost_ret (ret_cell rfl rfl hb' (by simpa using t2)) hd' ?_
          refine ⟨?_, hfr.out.trans hfr' (fun b hb x => ?_)⟩
          · rw [hev.out]
            have t3' : A'.tmps.getD 3 undef = .bool (SX.okOf (numR a) (numR b) (numR d) ⟨c.toArray⟩) := by simpa using t3
            rw [t3']
            rfl
          · rcases x with x | x
            · omega
            · have := lt_blk hp.out; have := hfr.out.size; have hz : w.heap.size < wr.heap.size := lt_blk hres0.out; omega
      · have hev : Hid (evR t = (⟨0, 0, [], 0⟩, false)) := Lib.hid (by
          unfold evR
          split
          next a b c d e => rw [hcut] at e; subst e; exact absurd rfl h4
          next => rfl)
        have h4' : ((L.length : Int) = 4) = False := eq_false (by omega)
        have h4'' : ((L.length : Int) == 4) = false := by simp only [beq_eq_false_iff_ne, ne_eq]; omega
        go_wp2
        refine bodyPost_ret (ret_cell rfl rfl (put4 hres.out _ _ _ _) rfl) rfl ?_
        exact ⟨by rw [hev.out]; rfl, fr4 hfr.out (Nat.le_refl _) _ _ _ _⟩
end Go.Proofs.YtcemhpdhcmlhlaaGreatDoor

/-
  The reference: a text read. Condition: the text is not too long.
-/
namespace Go.Proofs.YtcemhpdhcmlhlaaGreatDoor
open Go.RowKit Go.Deep Go.Shelf

/-- between two rounds of the reference's Parse -/
structure RpI (s : List UInt8) (w : World) (j q k : Nat) (L : List Ev) (v : Value) (wr : World) : Prop where
  m : j + k = s.length
  le : q ≤ j
  len : L.length ≤ j
  cut : linesOf s = L.map Ev.line ++ linesOf (s.drop q)
  no : (10 : UInt8) ∉ (s.take j).drop q
  right : ∀ x ∈ L, x.right = true
  row : wr.ownsRow w.heap.size 24 4 v L.length (L.flatMap Ev.cells)
  fr : Fr (fun _ => False) w wr
theorem RpI.skip {s : List UInt8} {w : World} {j q k : Nat} {L : List Ev} {v : Value} {wr : World} {b : UInt8} (h : RpI s w j q k L v wr) (hb : s[j]? = some b) (hne : b ≠ 10) : RpI s w (j + 1) q (k - 1) L v wr := by
  have hl := (List.getElem?_eq_some_iff.1 hb).1
  refine ⟨by have := h.m; omega, by have := h.le; omega, by have := h.len; omega, h.cut, ?_, h.right, h.row, h.fr⟩
  rw [drop_take_snoc hb h.le, List.mem_append, List.mem_singleton]
  rintro (h' | h')
  · exact h.no h'
  · exact hne h'.symm
theorem RpI.here {s : List UInt8} {w : World} {j q k : Nat} {L : List Ev} {v : Value} {wr : World} (h : RpI s w j q k L v wr) (hb : s[j]? = some 10) : linesOf (s.drop q) = ((s.take j).drop q ++ [10]) :: linesOf (s.drop (j + 1)) := by
  rw [drop_split hb h.le, linesOf_app _ _ h.no]
theorem RpI.add {s : List UInt8} {w : World} {j q k : Nat} {L : List Ev} {v v' : Value} {wr w5 : World} {X : Ev} (h : RpI s w j q k L v wr) (hb : s[j]? = some 10) (he : evR ((s.take j).drop q) = (X, true))
    (row : w5.ownsRow w.heap.size 24 4 v' (L.length + 1) (L.flatMap Ev.cells ++ X.cells)) (fr : Fr (fun _ => False) w w5) : RpI s w (j + 1) (j + 1) (k - 1) (L ++ [X]) v' w5 := by
  have hl := (List.getElem?_eq_some_iff.1 hb).1
  obtain ⟨r, e⟩ := evR_ok he
  refine ⟨by have := h.m; omega, Nat.le_refl _, by have := h.len; simp; omega, ?_, ?_, ?_, by simpa using row, fr⟩
  · rw [h.cut, h.here hb, List.map_append, List.map_singleton, e]; simp
  · rw [List.drop_eq_nil_of_le (by rw [List.length_take]; omega)]; simp
  · intro z hz
    rcases List.mem_append.1 hz with hz | hz
    · exact h.right z hz
    · rw [List.mem_singleton.1 hz]; exact r
theorem RpI.bad {s : List UInt8} {w : World} {j q k : Nat} {L : List Ev} {v : Value} {wr : World} {X : Ev} (h : RpI s w j q k L v wr) (hb : s[j]? = some 10) (he : evR ((s.take j).drop q) = (X, false)) {W : World} {B : Nat} {n : Int} (hn : n = L.length + 1) : ParseIs s B (.slice none 0 0) 60 n W := by
  refine .inr ⟨L, (s.take j).drop q ++ [10], ?_, h.right, ?_, rfl, rfl, hn⟩
  · rw [h.cut, h.here hb]
    exact ⟨linesOf (s.drop (j + 1)), by simp⟩
  · intro y hy e
    have := evR_line hy e
    rw [he] at this
    cases (Prod.mk.inj this).2
theorem RpI.tail {s : List UInt8} {w : World} {q : Nat} {L : List Ev} {v : Value} {wr : World} (h : RpI s w s.length q 0 L v wr) (hq : q < s.length) {W : World} {B : Nat} {n : Int} (hn : n = L.length + 1) : ParseIs s B (.slice none 0 0) 60 n W := by
  have h1 := h.no
  rw [List.take_length] at h1
  refine .inr ⟨L, s.drop q, ?_, h.right, ?_, rfl, rfl, hn⟩
  · rw [h.cut, linesOf_bare _ h1 (by intro e; have := congrArg List.length e; simp at this; omega)]
    exact ⟨[], by simp⟩
  · intro y hy e
    obtain ⟨t, e2⟩ := line_end y
    rw [e2] at e
    exact h1 (by rw [← e]; simp)
theorem RpI.done {s : List UInt8} {w : World} {q : Nat} {L : List Ev} {v : Value} {wr : World} (h : RpI s w s.length q 0 L v wr) (hq : ¬ q < s.length) : ParseIs s w.heap.size v 0 0 wr := by
  refine .inl ⟨L, ?_, h.right, rfl, rfl, h.row⟩
  rw [h.cut, List.drop_eq_nil_of_le (by omega)]
  simp [linesOf]

set_option maxRecDepth 100000 in
set_option maxHeartbeats 4000000 in
theorem refParse_h (s : List UInt8) (hs : s.length ≤ 1048576) (w : World) :
    Calls Tryz.prog 9 #[str s] w fun e w' => Fr (fun _ => False) w w' ∧ ∃ v code k, e = .returned (.tuple #[v, .int .i64 code, .int .i64 k]) ∧ ParseIs s w.heap.size v code k w' := by
  obtain ⟨i0, hi, hz0, hz1, hz2⟩ := info_parts ev_info
  replace hi := Lib.hid hi
  replace hz0 := Lib.hid hz0
  replace hz1 := Lib.hid hz1
  replace hz2 := Lib.hid hz2
  have hle : ¬ ((s.length : Int) > 1048576) := by omega
  have HE := Lib.hid (fun (t : List UInt8) (h : t.length ≤ 1048576) (W : World) => refEvent_h t h W)
  go_enter Tryz.func9, Tryz.ntmps9
  go_wp2
  go_loopg [5, 6, 7, 8] s.length (fun k v f n i wr => ∃ (j q : Nat) (L : List Ev), i = .int .i64 j ∧ f = .int .i64 q ∧ n = .int .i64 L.length ∧ Hid (RpI s w j q k L v wr))
  case atStart => exact ⟨0, 0, [], rfl, rfl, rfl, Lib.hid ⟨by simp, by simp, by simp, by simp, by simp, by simp, ⟨by simp, .inl ⟨rfl, rfl⟩⟩, Fr.refl _ _⟩⟩
  case round =>
    obtain ⟨j, q, L, rfl, rfl, rfl, hj⟩ := hrel
    by_cases h : j < s.length
    · obtain ⟨b, hb⟩ : ∃ b, s[j]? = some b := ⟨_, List.getElem?_eq_getElem h⟩
      have hbs : j < (⟨s.toArray⟩ : ByteArray).size := by rw [size_mk]; exact h
      have hb0 := byte_at hb hbs
      have hl : (j : Int) < s.length := by omega
      have hl2 : (s.length : Int) ≤ 1048576 := by omega
      replace hb := Lib.hid hb
      by_cases h10 : b = 10
      · subst h10
        have hq : q ≤ j := hj.out.le
        have hLl := hj.out.len
        obtain ⟨t, ht⟩ : ∃ t, t = (s.take j).drop q := ⟨_, rfl⟩
        obtain ⟨X, ok, hev⟩ : ∃ X ok, evR t = (X, ok) := ⟨_, _, rfl⟩
        have HC := Lib.hid (show ∀ W, Calls Tryz.prog 20 #[str t] W fun e w' => e = .returned (.tuple #[.agg #[.int .i64 X.task, .int .i64 X.ask, str X.stage, .int .i64 X.span], .bool ok]) ∧ Fr (fun _ => False) W w' from fun W => by
          have := HE.out t (by rw [ht, List.length_drop, List.length_take]; omega) W
          rw [hev] at this
          exact this)
        have hcut : Hid ((⟨s.toArray⟩ : ByteArray).extract q j = ⟨t.toArray⟩) := Lib.hid (by rw [str_extract, ht])
        rw [ht] at hev
        replace hev := Lib.hid hev
        replace ht := Lib.hid ht
        have hc2 := hcut.out
        go_wp2_with (first
          | (go_at_call 20; refine (HC.out _).mono ?_; rintro e w3 ⟨rfl, hf3⟩; replace hf3 := Lib.hid hf3; cases ok)
          | (at_builtin; refine app_hold ?_))
        · go_ret3
          exact ⟨hj.out.fr.trans (hf3.out.alloc _) (fun _ _ x => x), _, _, _, rfl, hj.out.bad hb.out hev.out rfl⟩
        · unfold AppHeld
          refine wpList_append_own_at _ rfl _ _ 22 rfl w.heap.size 24 i0 _ 4 40 Tryz.underlying22 hi.out hz0.out hz1.out hz2.out rfl (by decide) _ _ _ rfl (ownsRow_fr hj.out.row ((hf3.out.alloc _).alloc _) (fun _ x => x.elim)) ⟨w3.heap.size + 1, 0, none⟩ 1 1 X.cells rfl rfl (news4 (t := 24) (by rw [heap_alloc, if_pos (by simp only [size_alloc])]; rfl)) ?_ ?_ ?_ ?_ ?_
          · intro u hu
            simp only [Ev.cells, List.mem_cons, List.not_mem_nil, or_false] at hu
            rcases hu with rfl | rfl | rfl | rfl <;> rfl
          · unfold maxLen; omega
          · omega
          · have := hj.out.fr.size; have := hf3.out.size; simp only [size_alloc]; omega
          · intro v' w5 hown' hgrow _ _
            have hI := Lib.hid (hj.out.add hb.out hev.out hown' (Fr.owned (hj.out.fr.trans ((hf3.out.alloc _).alloc _) (fun _ _ x => x)) (ownsRow_fr hj.out.row ((hf3.out.alloc _).alloc _) (fun _ x => x.elim)) (Fr.grownBy hgrow)))
            clear hown' hgrow
            go_wp2
            go_roundg (gk - 1)
            case measure => have := hj.out.m; omega
            case rel => exact ⟨j + 1, j + 1, L ++ [X], by go_num, by go_num, by rw [List.length_append, List.length_singleton]; go_num, hI⟩
      · have hn : ((b.toNat : Int) == 10) = false := by
          have : b.toNat ≠ 10 := fun e => h10 (UInt8.toNat_inj.1 e)
          simp only [beq_eq_false_iff_ne, ne_eq]; omega
        have hI := Lib.hid (hj.out.skip hb.out h10)
        go_wp2
        go_roundg (gk - 1)
        case measure => have := hj.out.m; omega
        case rel => exact ⟨j + 1, q, L, by go_num, rfl, rfl, hI⟩
    · obtain rfl : j = s.length := by have := hj.out.m; omega
      obtain rfl : gk = 0 := by have := hj.out.m; omega
      have hl2 : (s.length : Int) ≤ 1048576 := by omega
      have hLl := hj.out.len
      by_cases hq : q < s.length
      · have hq' : (q : Int) < s.length := by omega
        go_wp2
        go_ret3
        exact ⟨hj.out.fr, _, _, _, rfl, hj.out.tail hq rfl⟩
      · have hq' : ¬ (q : Int) < s.length := by omega
        go_wp2
        go_ret3
        exact ⟨hj.out.fr, _, _, _, rfl, hj.out.done hq⟩
end Go.Proofs.YtcemhpdhcmlhlaaGreatDoor

/-
  The reference: Print. No condition.
-/
namespace Go.Proofs.YtcemhpdhcmlhlaaGreatDoor
open Go.RowKit Go.Deep Go.Shelf

set_option maxHeartbeats 4000000 in
set_option maxRecDepth 100000 in
theorem refPrint_h (w : World) (a : Option Addr) (c : Nat) (L : List Ev) (hrd : Rd w 4 (.slice a L.length c) L.length (L.flatMap Ev.cells)) (hwf : ∀ x ∈ L, x.wf) (hn : L.length ≤ 1000000) :
    Calls Tryz.prog 6 #[.slice a L.length c] w fun e w' => e = .returned (printV L) ∧ Fr (fun _ => False) w w' := by
  have HR := Lib.hid hrd
  have HW := Lib.hid hwf
  clear hrd hwf
  go_enter Tryz.func6, Tryz.ntmps6
  go_wp2
  go_loopg [4, 5] L.length (fun k t i wr => ∃ (j : Nat), i = .int .i64 j ∧ t = str ((L.take j).flatMap Ev.line) ∧ Hid (j + k = L.length ∧ (∀ x ∈ L.take j, x.right = true) ∧ Fr (fun _ => False) w wr))
  case atStart => exact ⟨0, rfl, rfl, Lib.hid ⟨by simp, by simp, Fr.refl _ _⟩⟩
  case round =>
    obtain ⟨j, rfl, rfl, hj⟩ := hrel
    by_cases hlt : j < L.length
    · obtain ⟨x, hx⟩ : ∃ x, L[j]? = some x := ⟨_, List.getElem?_eq_getElem hlt⟩
      obtain ⟨b, o, rfl, c0, c1, c2, c3⟩ := Ev.at (HR.out.fr (S := fun _ => False) (hj.out.2.2) (fun _ _ x => x)) hx
      have hxm : x ∈ L := List.mem_of_getElem? hx
      have hxw := HW.out x hxm
      have hst := flat_step Ev.line hx
      have hTl : ((L.take j).flatMap Ev.line).length ≤ 100 * L.length := by
        have h1 := lines_len (L := L.take j) (fun y hy => HW.out y (List.mem_of_mem_take hy)) hj.out.2.1
        rw [List.length_take] at h1
        omega
      obtain ⟨T, hT⟩ : ∃ T, T = (L.take j).flatMap Ev.line := ⟨_, rfl⟩
      rw [← hT] at hTl hst ⊢
      replace hT := Lib.hid hT
      replace hst := Lib.hid hst
      replace hxw := Lib.hid hxw
      replace hxm := Lib.hid hxm
      have HK := Lib.hid (fun (W : World) => refKnown_h x.stage W)
      cases hxr : x.right with
      | true =>
        have hR := right_is hxr
        have hl1 := (right_len hxw.out hxr).1
        have hl2 := (right_len hxw.out hxr).2
        have r1 := hR.task.1
        have r2 := hR.task.2
        have r3 := hR.ask.1
        have r4 := hR.ask.2
        have r5 := hR.span.1
        have r6 := hR.span.2
        have r7 := hR.stage
        have hq1 : ((((⟨T.toArray⟩ : ByteArray).size + (⟨x.line.toArray⟩ : ByteArray).size : Nat)) : Int) ≤ 9223372036854775807 := by rw [size_mk, size_mk]; omega
        have HLn := Lib.hid (fun (W : World) => refLine_h x hR (by omega) W)
        unfold Ev.val at HLn
        rw [r7] at HK
        replace hR := Lib.hid hR
        have hsn := Lib.hid (take_snoc hx)
        clear hx
        go_wp2_with (first
          | (go_at_call 16; refine (HK.out _).mono ?_; rintro e w2 ⟨rfl, rfl⟩)
          | (go_at_call 17; refine (HLn.out _).mono ?_; rintro e w3 ⟨rfl, hf3⟩; replace hf3 := Lib.hid hf3))
        go_roundg (gk - 1)
        case measure => have := hj.out.1; omega
        case rel =>
          refine ⟨j + 1, by go_num, congrArg Value.string ((str_append _ _).trans (by rw [hst.out])), Lib.hid ⟨by have := hj.out.1; omega, ?_, hj.out.2.2.trans (((Fr.refl (fun _ => False) wr).alloc _).trans hf3.out (fun _ _ x => x)) (fun _ _ x => x)⟩⟩
          intro y hy
          rw [hsn.out, List.mem_append, List.mem_singleton] at hy
          rcases hy with hy | rfl
          · exact hj.out.2.1 y hy
          · exact hxr
      | false =>
        have hpv := Lib.hid (show printV L = .tuple #[str [], .int .i64 1] from by
          unfold printV
          rw [if_neg (fun h => by rw [List.all_eq_true] at h; have := h x hxm.out; rw [hxr] at this; cases this)])
        have hbad := Lib.hid (show ¬ (((0 ≤ x.task ∧ -1 ≤ x.ask) ∧ 0 ≤ x.span) ∧ (x.task ≤ 2147483647 ∧ x.ask ≤ 2147483647 ∧ x.span ≤ 2147483647) ∧ known x.stage = true) from by
          rintro ⟨⟨⟨h1, h2⟩, h3⟩, ⟨h4, h5, h6⟩, h7⟩
          have : x.right = true := by
            unfold Ev.right
            simp only [Bool.and_eq_true, decide_eq_true_eq]
            exact ⟨h1, h2, h3, by omega, h7⟩
          rw [hxr] at this; cases this)
        clear hx
        go_wp2_with (go_at_call 16; refine (HK.out _).mono ?_; rintro e w2 ⟨rfl, rfl⟩)
        all_goals first
          | (go_ret2
             exact ⟨congrArg Ending.returned hpv.out.symm, hj.out.2.2.trans ((Fr.refl (fun _ => False) wr).alloc _) (fun _ _ x => x)⟩)
          | (exfalso
             refine hbad.out ⟨⟨⟨?_, ?_⟩, ?_⟩, ⟨?_, ?_, ?_⟩, ?_⟩ <;> first | omega | assumption | simp_all)
    · have hall : L.all Ev.right = true := by
        rw [List.all_eq_true]
        intro y hy
        have := hj.out.2.1 y
        rw [List.take_of_length_le (by omega)] at this
        exact this hy
      go_wp2
      go_ret2
      refine ⟨congrArg Ending.returned ?_, hj.out.2.2⟩
      unfold printV
      rw [if_pos hall]
      show Value.tuple #[str ((L.take j).flatMap Ev.line), .int .i64 0] = Value.tuple #[str (L.flatMap Ev.line), .int .i64 0]
      rw [List.take_of_length_le (by omega)]
end Go.Proofs.YtcemhpdhcmlhlaaGreatDoor

/-
  mallowlaw28.same, of the same events; Print's and Parse's frames for the laws. No condition.
-/
namespace Go.Proofs.YtcemhpdhcmlhlaaGreatDoor
open Go.RowKit Go.Deep Go.Shelf

theorem ev_fields : Tryz.prog.fieldsOf 24 = #[{ name := "Task", type := 3, offset := 0, embedded := false, tag := "", pkgPath := "", byteOffset := 0 }, { name := "Ask", type := 3, offset := 1, embedded := false, tag := "", pkgPath := "", byteOffset := 8 }, { name := "Stage", type := 9, offset := 2, embedded := false, tag := "", pkgPath := "", byteOffset := 16 }, { name := "Span", type := 3, offset := 3, embedded := false, tag := "", pkgPath := "", byteOffset := 32 }] := by kernel_rfl
theorem ev_under : Tryz.prog.underlying 24 = some (.struct (Tryz.prog.fieldsOf 24)) := by kernel_rfl
theorem ev_held : Tryz.prog.stoodInHeld 24 = false := by kernel_rfl
theorem ev_guard : Tryz.prog.eqGuardType Tryz.prog.depth 24 = false := by kernel_rfl
theorem agg_no {t : TypeId} {d : TypeDesc} {w : World} (h : Tryz.prog.underlying t = some d) (hp : plainT d = true) : (isAgg t).run Tryz.prog w = .ok false w := by
  unfold isAgg
  rw [Sem.run_bind, run_underlying h w]
  cases d <;> simp_all [plainT]
theorem ev_neq (x : Ev) (w : World) : (binOp .neq 24 x.val x.val).run Tryz.prog w = .ok (.bool false) w := by
  unfold Ev.val
  rw [run_neq_struct, run_equalIn_struct w 9999 _ _ _ ev_under ev_held, ev_fields]
  simp [Op.eqFields, part, agg_no Tryz.underlying3 rfl, agg_no Tryz.underlying9 rfl, run_equalIn_int w _ _ _ _ _ _ Tryz.underlying3, run_equalIn_string w _ _ _ _ Tryz.underlying9, Sem.run_bind]

set_option maxRecDepth 100000 in
set_option maxHeartbeats 4000000 in
theorem same_h (w : World) (L : List Ev) (a1 a2 : Option Addr) (k1 k2 : Nat) (h1 : Rd w 4 (.slice a1 L.length k1) L.length (L.flatMap Ev.cells)) (h2 : Rd w 4 (.slice a2 L.length k2) L.length (L.flatMap Ev.cells)) (hn : L.length ≤ 1048576) :
    Calls Tryz.prog 7 #[.slice a1 L.length k1, .slice a2 L.length k2] w fun e w' => e = .returned (.bool true) ∧ Fr (fun _ => False) w w' := by
  have H1 := Lib.hid h1
  have H2 := Lib.hid h2
  clear h1 h2
  go_enter Tryz.func7, Tryz.ntmps7
  go_wp2
  go_loopg [5] L.length (fun k i wr => ∃ (j : Nat), i = .int .i64 j ∧ Hid (j + k = L.length ∧ Fr (fun _ => False) w wr))
  case atStart => exact ⟨0, rfl, Lib.hid ⟨by simp, Fr.refl _ _⟩⟩
  case round =>
    obtain ⟨j, rfl, hj⟩ := hrel
    by_cases hlt : j < L.length
    · obtain ⟨x, hx⟩ : ∃ x, L[j]? = some x := ⟨_, List.getElem?_eq_getElem hlt⟩
      obtain ⟨b1, o1, rfl, c0, c1, c2, c3⟩ := Ev.at (H1.out.fr (S := fun _ => False) (hj.out.2) (fun _ _ x => x)) hx
      obtain ⟨b2, o2, rfl, d0, d1, d2, d3⟩ := Ev.at (H2.out.fr (S := fun _ => False) (hj.out.2) (fun _ _ x => x)) hx
      have hne : ∀ W, (binOp .neq 24 (.agg #[.int .i64 x.task, .int .i64 x.ask, str x.stage, .int .i64 x.span]) (.agg #[.int .i64 x.task, .int .i64 x.ask, str x.stage, .int .i64 x.span])).run Tryz.prog W = .ok (.bool false) W := fun W => ev_neq x W
      have hgu := ev_guard
      clear hx
      go_wp2
      go_region
      all_goals go_wp2
      go_roundg (gk - 1)
      case measure => have := hj.out.1; omega
      case rel => exact ⟨j + 1, by go_num, Lib.hid ⟨by have := hj.out.1; omega, hj.out.2.drew⟩⟩
    · go_wp2
      go_ret
      exact ⟨rfl, hj.out.2⟩
end Go.Proofs.YtcemhpdhcmlhlaaGreatDoor

/-
  class.Table, once.
-/
namespace Go.Proofs.YtcemhpdhcmlhlaaGreatDoor
open Go.RowKit Go.Deep
namespace SX
/- TB r: 1 objects of 135 -/
def TBv : SV := (.sl true 200 4 0 68 (.o 201 0))
def TBn : Nat := 202
def TBh0 (h : Heap) : Heap :=
  (200, .vec 304 4 [(j 0), (j 0), (j 0), (.l .u32 0), (j 8), (j 1), (j 1024), (.l .u32 536870912), (j 16), (j 1), (j 512), (.l .u32 268435456), (j 24), (j 1), (j 341), (.l .u32 178956971), (j 32), (j 1), (j 256), (.l .u32 134217728), (j 48), (j 1), (j 170), (.l .u32 89478486), (j 64), (j 1), (j 128), (.l .u32 67108864), (j 80), (j 1), (j 102), (.l .u32 53687092), (j 96), (j 1), (j 85), (.l .u32 44739243), (j 112), (j 1), (j 73), (.l .u32 38347923), (j 128), (j 1), (j 64), (.l .u32 33554432), (j 144), (j 1), (j 56), (.l .u32 29826162), (j 160), (j 1), (j 51), (.l .u32 26843546), (j 176), (j 1), (j 46), (.l .u32 24403224), (j 192), (j 1), (j 42), (.l .u32 22369622), (j 208), (j 1), (j 39), (.l .u32 20648882), (j 224), (j 1), (j 36), (.l .u32 19173962), (j 240), (j 1), (j 34), (.l .u32 17895698), (j 256), (j 1), (j 32), (.l .u32 16777216), (j 288), (j 1), (j 28), (.l .u32 14913081), (j 320), (j 1), (j 25), (.l .u32 13421773), (j 352), (j 1), (j 23), (.l .u32 12201612), (j 384), (j 1), (j 21), (.l .u32 11184811), (j 416), (j 1), (j 19), (.l .u32 10324441), (j 448), (j 1), (j 18), (.l .u32 9586981), (j 480), (j 1), (j 17), (.l .u32 8947849), (j 512), (j 1), (j 16), (.l .u32 8388608), (j 576), (j 1), (j 14), (.l .u32 7456541), (j 640), (j 1), (j 12), (.l .u32 6710887), (j 704), (j 1), (j 11), (.l .u32 6100806), (j 768), (j 1), (j 10), (.l .u32 5592406), (j 896), (j 1), (j 9), (.l .u32 4793491), (j 1024), (j 1), (j 8), (.l .u32 4194304), (j 1152), (j 1), (j 7), (.l .u32 3728271), (j 1280), (j 1), (j 6), (.l .u32 3355444), (j 1408), (j 2), (j 11), (.l .u32 3050403), (j 1536), (j 1), (j 5), (.l .u32 2796203), (j 1792), (j 2), (j 9), (.l .u32 2396746), (j 2048), (j 1), (j 4), (.l .u32 2097152), (j 2304), (j 2), (j 7), (.l .u32 1864136), (j 2688), (j 1), (j 3), (.l .u32 1597831), (j 3072), (j 3), (j 8), (.l .u32 1398102), (j 3200), (j 2), (j 5), (.l .u32 1342178), (j 3456), (j 3), (j 7), (.l .u32 1242757), (j 4096), (j 1), (j 2), (.l .u32 1048576), (j 4864), (j 3), (j 5), (.l .u32 883012), (j 5376), (j 2), (j 3), (.l .u32 798916), (j 6144), (j 3), (j 4), (.l .u32 699051), (j 6528), (j 4), (j 5), (.l .u32 657931), (j 6784), (j 5), (j 6), (.l .u32 633103), (j 6912), (j 6), (j 7), (.l .u32 621379), (j 8192), (j 1), (j 1), (.l .u32 524288), (j 9472), (j 7), (j 6), (.l .u32 453439), (j 9728), (j 6), (j 5), (.l .u32 441506), (j 10240), (j 5), (j 4), (.l .u32 419431), (j 10880), (j 4), (j 3), (.l .u32 394759), (j 12288), (j 3), (j 2), (.l .u32 349526), (j 13568), (j 5), (j 3), (.l .u32 316552), (j 14336), (j 7), (j 4), (.l .u32 299594), (j 16384), (j 2), (j 1), (.l .u32 262144), (j 18432), (j 9), (j 4), (.l .u32 233017), (j 19072), (j 7), (j 3), (.l .u32 225198), (j 20480), (j 5), (j 2), (.l .u32 209716), (j 21760), (j 8), (j 3), (.l .u32 197380), (j 24576), (j 3), (j 1), (.l .u32 174763), (j 27264), (j 10), (j 3), (.l .u32 157533), (j 28672), (j 7), (j 2), (.l .u32 149797), (j 32768), (j 4), (j 1), (.l .u32 131072)] (.o 201 0)) :: h
def TBh : Heap := TBh0 []

theorem tb_sure : (runP Tryz.prog wt0 161 Tryz.f161 [] [] 0 tellK).sure (isRes TBv TBh TBn) = true := by kernel_rfl
noncomputable def wt1 : List (FuncId × Spec) := (161, onceSpec [] TBv TBh TBn) :: wt0
theorem wt1_ok (𝔅 : BigRep) : ∀ x ∈ wt1, SpecOk Tryz.prog 𝔅 x.1 x.2 := cons_ok (.inl (once_ok (runP_ok fit (wt0_ok 𝔅) Tryz.func161 (by kernel_rfl)) rfl tb_sure)) (wt0_ok 𝔅)
end SX
end Go.Proofs.YtcemhpdhcmlhlaaGreatDoor

/-
  The first state.
-/
namespace Go.Proofs.YtcemhpdhcmlhlaaGreatDoor
open Go.RowKit Go.Deep
namespace SX
/- S0 p: 136 objects of 136 -/
def S0v : SV := (.tup [(q 119), (j 0)])
def S0n : Nat := 147
def S0h0 (h : Heap) : Heap :=
  (146, mpi .i64 [(1, (.t [108, 111, 111, 107])), (2, (.t [114, 101, 112, 97, 121])), (3, (.t [99, 108, 101, 97, 110])), (4, (.t [116, 97, 107, 101])), (5, (.t [107, 101, 101, 112])), (6, (.t [108, 111, 99, 107])), (7, (.t [103, 114, 111, 119])), (8, (.t [100, 111])), (9, (.t [115, 112, 101, 99, 105, 97, 108])), (10, (.t [110, 101, 120, 116])), (11, (.t [111, 110, 101])), (12, (.t [115, 116, 111, 112])), (13, (.t [119, 97, 105, 116])), (14, (.t [100, 114, 97, 105, 110])), (15, (.t [99, 108, 101, 97, 110])), (16, (.t [102, 108, 105, 112]))]) ::
  (145, .it 98) ::
  (143, .vec 3 1 [(j 0)] (.o 144 0)) ::
  (142, .vec 3 1 [(j 0)] (.c 1)) ::
  (141, .cells 24 [(j 0), (j 0), (.t [108, 111, 111, 107]), (j 0)]) ::
  (139, .vec 3 1 [(j 0)] (.o 140 0)) ::
  (138, .vec 3 1 [(j 0)] (.c 1)) ::
  (136, .vec 125 1 [(q 134)] (.o 137 0)) ::
  (135, .vec 125 1 [(q 134)] (.c 1)) ::
  (134, .cells 129 [(j 1), (j 0), (u 40), (u 0), (j 0), (u 0), .ff, (j 0), .ns, .ns, (u 0), (u 0), (j 0), .ff]) ::
  (133, .cells 62 [(j 1), (j 0), (u 40), (u 0), (j 0), (u 0), .ff, (j 0), .ns, .ns]) ::
  (132, .cells 62 [(j 1), (j 0), (u 40), (u 0), (j 0), (u 0), .ff, (j 0), .ns, .ns]) ::
  (130, .vec 118 1 [(q 120), (q 124), (q 128)] (.o 131 0)) ::
  (129, .vec 118 1 [(q 128)] (.c 1)) ::
  (128, .cells 122 ((j 2) :: (rp_ 4 (j 0) [.ff, .ff, (u 0), (u 0)]))) ::
  (126, .gone) ::
  (125, .vec 118 1 [(q 124)] (.c 1)) ::
  (124, .cells 122 ((j 1) :: (rp_ 4 (j 0) [.ff, .ff, (u 0), (u 0)]))) ::
  (122, .gone) ::
  (121, .vec 118 1 [(q 120)] (.c 1)) ::
  (120, .cells 122 (rp_ 5 (j 0) [.ff, .ff, (u 0), (u 0)])) ::
  (119, .cells 117 [(q 103), (q 116), (.sl true 130 1 0 3 (.o 131 0)), (.sl true 117 1 0 1 (.c 1)), (.sl true 136 1 0 1 (.o 137 0)), .ns, (.l .i64 (-1)), (.l .i64 (-1)), .ff, .ff, (.m 118)]) ::
  (118, mpi .i64 [(1, (.fn 85 [])), (2, (.fn 86 [])), (3, (.fn 87 [])), (4, (.fn 88 [])), (5, (.fn 89 [])), (6, (.fn 90 [])), (7, (.fn 91 [])), (8, (.fn 92 [])), (9, (.fn 93 [])), (10, (.fn 94 [])), (11, (.fn 95 [])), (12, (.fn 96 [])), (13, (.fn 97 [])), (14, (.fn 98 [])), (15, (.fn 99 [])), (16, (.fn 100 []))]) ::
  (117, .vec 68 1 [(.sl true 139 1 0 1 (.o 140 0))] (.c 1)) ::
  (116, .cells 168 [(q 30), (u 4607632778762754458)]) ::
  (114, .vec 165 1 [(q 112)] (.o 115 0)) ::
  (113, .vec 165 1 [(q 112)] (.c 1)) ::
  (112, .cells 247 ((q 111) :: (rp_ 137 (j 0) [(u 0), (j 0)]))) ::
  (111, .cells 242 [(q 104)]) ::
  (110, mpi .i64 []) ::
  (109, mpi .i64 []) ::
  (108, mpi .i64 []) ::
  (107, mpi .i64 []) ::
  (106, .cells 240 ((q 30) :: (rp_ 256 .ns [(.m 107), (.m 108), (.m 109), (.m 110), (.m 105)]))) ::
  (105, mpi .u64 []) ::
  (104, .cells 234 ((q 30) :: (q 99) :: (q 100) :: .ns :: (rp_ 4 (u 0) []))) ::
  (103, .cells 109 [(q 30), (q 99), (q 100), (q 104), (.sl true 114 1 0 1 (.o 115 0)), (q 106), (.m 101), (q 102), (j 100), .ff, (u 0), (u 0)]) ::
  (102, .cells 231 [.ns]) ::
  (101, mpi .i64 []) ::
  (100, .cells 228 [.np, (j 0)]) :: h
def S0h1 (h : Heap) : Heap :=
  (99, .cells 225 [(.m 96), (.m 97), (.m 98)]) ::
  (98, .mp .non []) ::
  (97, mpi .u64 []) ::
  (96, mpi .i64 []) ::
  (95, .cells 302 [(u 0), (u 0), (u 0)]) ::
  (94, .cells 302 [(u 0), (u 0), (u 0)]) ::
  (93, .cells 302 [(u 0), (u 0), (u 0)]) ::
  (92, .cells 302 [(u 0), (u 0), (u 0)]) ::
  (91, .cells 302 [(u 0), (u 0), (u 0)]) ::
  (90, .cells 302 [(u 0), (u 0), (u 0)]) ::
  (89, .cells 302 [(u 0), (u 0), (u 0)]) ::
  (88, .cells 302 [(u 0), (u 0), (u 0)]) ::
  (87, .cells 302 [(u 0), (u 0), (u 0)]) ::
  (86, .cells 302 [(u 0), (u 0), (u 0)]) ::
  (85, .cells 302 [(u 0), (u 0), (u 0)]) ::
  (84, .cells 302 [(u 0), (u 0), (u 0)]) ::
  (83, .cells 302 [(u 0), (u 0), (u 0)]) ::
  (82, .cells 302 [(u 0), (u 0), (u 0)]) ::
  (81, .cells 302 [(u 0), (u 0), (u 0)]) ::
  (80, .cells 302 [(u 0), (u 0), (u 0)]) ::
  (79, .cells 302 [(u 0), (u 0), (u 0)]) ::
  (78, .cells 302 [(u 0), (u 0), (u 0)]) ::
  (77, .cells 302 [(u 0), (u 0), (u 0)]) ::
  (76, .cells 302 [(u 0), (u 0), (u 0)]) ::
  (75, .cells 302 [(u 0), (u 0), (u 0)]) ::
  (74, .cells 302 [(u 0), (u 0), (u 0)]) ::
  (73, .cells 302 [(u 0), (u 0), (u 0)]) ::
  (72, .cells 302 [(u 0), (u 0), (u 0)]) ::
  (71, .cells 302 [(u 0), (u 0), (u 0)]) ::
  (70, .cells 302 [(u 0), (u 0), (u 0)]) ::
  (69, .cells 302 [(u 0), (u 0), (u 0)]) ::
  (68, .cells 302 [(u 0), (u 0), (u 0)]) ::
  (67, .cells 302 [(u 0), (u 0), (u 0)]) ::
  (66, .cells 302 [(u 0), (u 0), (u 0)]) ::
  (65, .cells 302 [(u 0), (u 0), (u 0)]) ::
  (64, .cells 302 [(u 0), (u 0), (u 0)]) ::
  (63, .cells 302 [(u 0), (u 0), (u 0)]) ::
  (62, .cells 302 [(u 0), (u 0), (u 0)]) ::
  (61, .cells 302 [(u 0), (u 0), (u 0)]) ::
  (60, .cells 302 [(u 0), (u 0), (u 0)]) :: h
def S0h2 (h : Heap) : Heap :=
  (59, .cells 302 [(u 0), (u 0), (u 0)]) ::
  (58, .cells 302 [(u 0), (u 0), (u 0)]) ::
  (57, .cells 302 [(u 0), (u 0), (u 0)]) ::
  (56, .cells 302 [(u 0), (u 0), (u 0)]) ::
  (55, .cells 302 [(u 0), (u 0), (u 0)]) ::
  (54, .cells 302 [(u 0), (u 0), (u 0)]) ::
  (53, .cells 302 [(u 0), (u 0), (u 0)]) ::
  (52, .cells 302 [(u 0), (u 0), (u 0)]) ::
  (51, .cells 302 [(u 0), (u 0), (u 0)]) ::
  (50, .cells 302 [(u 0), (u 0), (u 0)]) ::
  (49, .cells 302 [(u 0), (u 0), (u 0)]) ::
  (48, .cells 302 [(u 0), (u 0), (u 0)]) ::
  (47, .cells 302 [(u 0), (u 0), (u 0)]) ::
  (46, .cells 302 [(u 0), (u 0), (u 0)]) ::
  (45, .cells 302 [(u 0), (u 0), (u 0)]) ::
  (44, .cells 302 [(u 0), (u 0), (u 0)]) ::
  (43, .cells 302 [(u 0), (u 0), (u 0)]) ::
  (42, .cells 302 [(u 0), (u 0), (u 0)]) ::
  (41, .cells 302 [(u 0), (u 0), (u 0)]) ::
  (40, .cells 302 [(u 0), (u 0), (u 0)]) ::
  (39, .cells 302 [(u 0), (u 0), (u 0)]) ::
  (38, .cells 302 [(u 0), (u 0), (u 0)]) ::
  (37, .cells 302 [(u 0), (u 0), (u 0)]) ::
  (36, .cells 302 [(u 0), (u 0), (u 0)]) ::
  (35, .cells 302 [(u 0), (u 0), (u 0)]) ::
  (34, .cells 302 [(u 0), (u 0), (u 0)]) ::
  (33, .cells 302 [(u 0), (u 0), (u 0)]) ::
  (32, .cells 302 [(u 0), (u 0), (u 0)]) ::
  (31, .cells 300 [(j 1), .ns, .np, (j 0)]) ::
  (30, .cells 210 [(q 9), (q 10), (q 28), (q 31), (.m 29), (q 32), (q 33), (q 34), (q 35), (q 36), (q 37), (q 38), (q 39), (q 40), (q 41), (q 42), (q 43), (q 44), (q 45), (q 46), (q 47), (q 48), (q 49), (q 50), (q 51), (q 52), (q 53), (q 54), (q 55), (q 56), (q 57), (q 58), (q 59), (q 60), (q 61), (q 62), (q 63), (q 64), (q 65), (q 66), (q 67), (q 68), (q 69), (q 70), (q 71), (q 72), (q 73), (q 74), (q 75), (q 76), (q 77), (q 78), (q 79), (q 80), (q 81), (q 82), (q 83), (q 84), (q 85), (q 86), (q 87), (q 88), (q 89), (q 90), (q 91), (q 92), (q 93), (q 94), (q 95), (u 0), (u 0)]) ::
  (29, mpi .i64 []) ::
  (28, .cells 296 [.ns, (u 0), .ns, (.m 27)]) ::
  (27, mpi .u64 []) ::
  (25, .vec 351 1 [(.m 11), (.m 15), (.m 19), (.m 23)] (.o 26 0)) ::
  (24, .vec 351 1 [(.m 23)] (.c 1)) ::
  (23, mpi .u64 []) ::
  (21, .gone) ::
  (20, .vec 351 1 [(.m 19)] (.c 1)) ::
  (19, mpi .u64 []) ::
  (17, .gone) :: h
def S0h3 (h : Heap) : Heap :=
  (16, .vec 351 1 [(.m 15)] (.c 1)) ::
  (15, mpi .u64 []) ::
  (13, .gone) ::
  (12, .vec 351 1 [(.m 11)] (.c 1)) ::
  (11, mpi .u64 []) ::
  (10, .cells 292 [.ns, (u 0), .ns, (u 0), .ns, (u 0), .ns, (u 0), (.sl true 25 1 0 4 (.o 26 0))]) ::
  (9, .cells 220 (rp_ 4 .ns [(u 0), .ns, (u 0), .ns, (u 0), (.m 7), (.m 8)])) ::
  (8, mpi .u64 []) ::
  (7, mpi .u64 []) ::
  (6, .cells 65 [.ns, .ns, .ns]) ::
  (5, .cells 65 [.ns, .ns, .ns]) ::
  (4, .cells 65 [.ns, .ns, .ns]) ::
  (3, .cells 67 [.ns, .ns, .ns, (j 1), (j 100), (.sl true 1 10 0 1 (.c 1))]) ::
  (2, .vec 3 1 (rp_ 7 (j 0) []) (.c 7)) ::
  (1, .vec 62 10 [(j 1), (j 0), (u 40), (u 0), (j 0), (u 0), .ff, (j 0), .ns, .ns] (.c 1)) ::
  (0, .big .z) :: h
def S0h : Heap := S0h0 (S0h1 (S0h2 (S0h3 [])))
end SX
end Go.Proofs.YtcemhpdhcmlhlaaGreatDoor

/-
  The step from state 0.
-/
namespace Go.Proofs.YtcemhpdhcmlhlaaGreatDoor
open Go.RowKit Go.Deep
namespace SX
/- R0 r: 131 objects of 154 -/
def R0v : SV := (.tup [(j 0), (j 0)])
def R0n : Nat := 568
def R0h0 (h : Heap) : Heap :=
  (146, mpi .i64 [(1, (.t [108, 111, 111, 107])), (2, (.t [114, 101, 112, 97, 121])), (3, (.t [99, 108, 101, 97, 110])), (4, (.t [116, 97, 107, 101])), (5, (.t [107, 101, 101, 112])), (6, (.t [108, 111, 99, 107])), (7, (.t [103, 114, 111, 119])), (8, (.t [100, 111])), (9, (.t [115, 112, 101, 99, 105, 97, 108])), (10, (.t [110, 101, 120, 116])), (11, (.t [111, 110, 101])), (12, (.t [115, 116, 111, 112])), (13, (.t [119, 97, 105, 116])), (14, (.t [100, 114, 97, 105, 110])), (15, (.t [99, 108, 101, 97, 110])), (16, (.t [102, 108, 105, 112]))]) ::
  (145, .it 98) ::
  (143, .vec 3 1 [(j 0)] (.o 144 0)) ::
  (142, .vec 3 1 [(j 0)] (.c 1)) ::
  (141, .cells 24 [(j 0), (j 0), (.t [108, 111, 111, 107]), (j 0)]) ::
  (139, .vec 3 1 [(j 0)] (.o 140 0)) ::
  (138, .vec 3 1 [(j 0)] (.c 1)) ::
  (136, .vec 125 1 [(q 134)] (.o 137 0)) ::
  (135, .vec 125 1 [(q 134)] (.c 1)) ::
  (134, .cells 129 [(j 1), (j 0), (u 40), (u 0), (j 0), (u 0), .ff, (j 0), .ns, .ns, (u 0), (u 0), (j 0), .ff]) ::
  (133, .cells 62 [(j 1), (j 0), (u 40), (u 0), (j 0), (u 0), .ff, (j 0), .ns, .ns]) ::
  (132, .cells 62 [(j 1), (j 0), (u 40), (u 0), (j 0), (u 0), .ff, (j 0), .ns, .ns]) ::
  (130, .vec 118 1 [(q 120), (q 124), (q 128)] (.o 131 0)) ::
  (129, .vec 118 1 [(q 128)] (.c 1)) ::
  (128, .cells 122 ((j 2) :: (rp_ 4 (j 0) [.ff, .ff, (u 0), (u 0)]))) ::
  (125, .vec 118 1 [(q 124)] (.c 1)) ::
  (124, .cells 122 ((j 1) :: (rp_ 4 (j 0) [.ff, .ff, (u 0), (u 0)]))) ::
  (121, .vec 118 1 [(q 120)] (.c 1)) ::
  (120, .cells 122 [(j 0), (j 0), (j 2), (j 0), (j 5), .tt, .ff, (u 1), (u 0)]) ::
  (119, .cells 117 [(q 103), (q 116), (.sl true 130 1 0 3 (.o 131 0)), (.sl true 117 1 0 1 (.c 1)), (.sl true 136 1 0 1 (.o 137 0)), .ns, (.l .i64 (-1)), (.l .i64 (-1)), .ff, .ff, (.m 118)]) ::
  (118, mpi .i64 [(1, (.fn 85 [])), (2, (.fn 86 [])), (3, (.fn 87 [])), (4, (.fn 88 [])), (5, (.fn 89 [])), (6, (.fn 90 [])), (7, (.fn 91 [])), (8, (.fn 92 [])), (9, (.fn 93 [])), (10, (.fn 94 [])), (11, (.fn 95 [])), (12, (.fn 96 [])), (13, (.fn 97 [])), (14, (.fn 98 [])), (15, (.fn 99 [])), (16, (.fn 100 []))]) ::
  (117, .vec 68 1 [(.sl true 139 1 1 0 (.o 140 1))] (.c 1)) ::
  (116, .cells 168 [(q 30), (u 4607632778762754458)]) ::
  (114, .vec 165 1 [(q 112)] (.o 115 0)) ::
  (113, .vec 165 1 [(q 112)] (.c 1)) ::
  (112, .cells 247 ((q 111) :: (rp_ 137 (j 0) [(u 0), (j 0)]))) ::
  (111, .cells 242 [(q 104)]) ::
  (110, mpi .i64 []) ::
  (109, mpi .i64 []) ::
  (108, mpi .i64 []) ::
  (107, mpi .i64 []) ::
  (106, .cells 240 ((q 30) :: (rp_ 256 .ns [(.m 107), (.m 108), (.m 109), (.m 110), (.m 105)]))) ::
  (105, mpi .u64 []) ::
  (104, .cells 234 [(q 30), (q 99), (q 100), .ns, (u 0), (u 0), (u 8192), (u 0)]) ::
  (103, .cells 109 [(q 30), (q 99), (q 100), (q 104), (.sl true 114 1 0 1 (.o 115 0)), (q 106), (.m 101), (q 102), (j 100), .ff, (u 0), (u 0)]) ::
  (102, .cells 231 [.ns]) ::
  (101, mpi .i64 []) ::
  (100, .cells 228 [.np, (j 0)]) ::
  (99, .cells 225 [(.m 96), (.m 97), (.m 98)]) ::
  (98, .mp .non []) :: h
def R0h1 (h : Heap) : Heap :=
  (97, mpi .u64 []) ::
  (96, mpi .i64 []) ::
  (95, .cells 302 [(u 0), (u 0), (u 0)]) ::
  (94, .cells 302 [(u 0), (u 0), (u 0)]) ::
  (93, .cells 302 [(u 0), (u 0), (u 0)]) ::
  (92, .cells 302 [(u 0), (u 0), (u 0)]) ::
  (91, .cells 302 [(u 0), (u 0), (u 0)]) ::
  (90, .cells 302 [(u 0), (u 0), (u 0)]) ::
  (89, .cells 302 [(u 0), (u 0), (u 0)]) ::
  (88, .cells 302 [(u 0), (u 0), (u 0)]) ::
  (87, .cells 302 [(u 0), (u 0), (u 0)]) ::
  (86, .cells 302 [(u 0), (u 0), (u 0)]) ::
  (85, .cells 302 [(u 0), (u 0), (u 0)]) ::
  (84, .cells 302 [(u 0), (u 0), (u 0)]) ::
  (83, .cells 302 [(u 0), (u 0), (u 0)]) ::
  (82, .cells 302 [(u 0), (u 0), (u 0)]) ::
  (81, .cells 302 [(u 0), (u 0), (u 0)]) ::
  (80, .cells 302 [(u 0), (u 0), (u 0)]) ::
  (79, .cells 302 [(u 0), (u 0), (u 0)]) ::
  (78, .cells 302 [(u 0), (u 0), (u 0)]) ::
  (77, .cells 302 [(u 0), (u 0), (u 0)]) ::
  (76, .cells 302 [(u 0), (u 0), (u 0)]) ::
  (75, .cells 302 [(u 0), (u 0), (u 0)]) ::
  (74, .cells 302 [(u 0), (u 0), (u 0)]) ::
  (73, .cells 302 [(u 0), (u 0), (u 0)]) ::
  (72, .cells 302 [(u 0), (u 0), (u 0)]) ::
  (71, .cells 302 [(u 0), (u 0), (u 0)]) ::
  (70, .cells 302 [(u 0), (u 0), (u 0)]) ::
  (69, .cells 302 [(u 0), (u 0), (u 0)]) ::
  (68, .cells 302 [(u 0), (u 0), (u 0)]) ::
  (67, .cells 302 [(u 0), (u 0), (u 0)]) ::
  (66, .cells 302 [(u 0), (u 0), (u 0)]) ::
  (65, .cells 302 [(u 0), (u 0), (u 0)]) ::
  (64, .cells 302 [(u 0), (u 0), (u 0)]) ::
  (63, .cells 302 [(u 0), (u 0), (u 0)]) ::
  (62, .cells 302 [(u 0), (u 0), (u 0)]) ::
  (61, .cells 302 [(u 0), (u 0), (u 0)]) ::
  (60, .cells 302 [(u 0), (u 0), (u 0)]) ::
  (59, .cells 302 [(u 0), (u 0), (u 0)]) ::
  (58, .cells 302 [(u 0), (u 0), (u 0)]) :: h
def R0h2 (h : Heap) : Heap :=
  (57, .cells 302 [(u 0), (u 0), (u 0)]) ::
  (56, .cells 302 [(u 0), (u 0), (u 0)]) ::
  (55, .cells 302 [(u 0), (u 0), (u 0)]) ::
  (54, .cells 302 [(u 0), (u 0), (u 0)]) ::
  (53, .cells 302 [(u 0), (u 0), (u 0)]) ::
  (52, .cells 302 [(u 0), (u 0), (u 0)]) ::
  (51, .cells 302 [(u 0), (u 0), (u 0)]) ::
  (50, .cells 302 [(u 0), (u 0), (u 0)]) ::
  (49, .cells 302 [(u 0), (u 0), (u 0)]) ::
  (48, .cells 302 [(u 0), (u 0), (u 0)]) ::
  (47, .cells 302 [(u 0), (u 0), (u 0)]) ::
  (46, .cells 302 [(u 0), (u 0), (u 0)]) ::
  (45, .cells 302 [(u 0), (u 0), (u 0)]) ::
  (44, .cells 302 [(u 0), (u 0), (u 0)]) ::
  (43, .cells 302 [(u 0), (u 0), (u 0)]) ::
  (42, .cells 302 [(u 0), (u 0), (u 0)]) ::
  (41, .cells 302 [(u 0), (u 0), (u 0)]) ::
  (40, .cells 302 [(u 0), (u 0), (u 0)]) ::
  (39, .cells 302 [(u 0), (u 0), (u 0)]) ::
  (38, .cells 302 [(u 0), (u 0), (u 0)]) ::
  (37, .cells 302 [(u 0), (u 0), (u 0)]) ::
  (36, .cells 302 [(u 0), (u 0), (u 0)]) ::
  (35, .cells 302 [(u 0), (u 0), (u 0)]) ::
  (34, .cells 302 [(u 0), (u 0), (u 0)]) ::
  (33, .cells 302 [(u 0), (u 0), (u 0)]) ::
  (32, .cells 302 [(u 0), (u 0), (u 0)]) ::
  (31, .cells 300 [(j 1), .ns, .np, (j 0)]) ::
  (30, .cells 210 [(q 9), (q 10), (q 28), (q 31), (.m 29), (q 32), (q 33), (q 34), (q 35), (q 36), (q 37), (q 38), (q 39), (q 40), (q 41), (q 42), (q 43), (q 44), (q 45), (q 46), (q 47), (q 48), (q 49), (q 50), (q 51), (q 52), (q 53), (q 54), (q 55), (q 56), (q 57), (q 58), (q 59), (q 60), (q 61), (q 62), (q 63), (q 64), (q 65), (q 66), (q 67), (q 68), (q 69), (q 70), (q 71), (q 72), (q 73), (q 74), (q 75), (q 76), (q 77), (q 78), (q 79), (q 80), (q 81), (q 82), (q 83), (q 84), (q 85), (q 86), (q 87), (q 88), (q 89), (q 90), (q 91), (q 92), (q 93), (q 94), (q 95), (u 0), (u 0)]) ::
  (29, mpi .i64 []) ::
  (28, .cells 296 [.ns, (u 0), .ns, (.m 27)]) ::
  (27, mpi .u64 []) ::
  (25, .vec 351 1 [(.m 11), (.m 15), (.m 19), (.m 23)] (.o 26 0)) ::
  (24, .vec 351 1 [(.m 23)] (.c 1)) ::
  (23, mpi .u64 []) ::
  (20, .vec 351 1 [(.m 19)] (.c 1)) ::
  (19, mpi .u64 []) ::
  (16, .vec 351 1 [(.m 15)] (.c 1)) ::
  (15, mpi .u64 []) ::
  (12, .vec 351 1 [(.m 11)] (.c 1)) ::
  (11, mpi .u64 []) :: h
def R0h3 (h : Heap) : Heap :=
  (10, .cells 292 [.ns, (u 0), .ns, (u 0), .ns, (u 0), .ns, (u 0), (.sl true 25 1 0 4 (.o 26 0))]) ::
  (9, .cells 220 (rp_ 4 .ns [(u 0), .ns, (u 0), .ns, (u 0), (.m 7), (.m 8)])) ::
  (8, mpi .u64 []) ::
  (7, mpi .u64 []) ::
  (6, .cells 65 [.ns, .ns, .ns]) ::
  (5, .cells 65 [.ns, .ns, .ns]) ::
  (4, .cells 65 [.ns, .ns, .ns]) ::
  (3, .cells 67 [.ns, .ns, .ns, (j 1), (j 100), (.sl true 1 10 0 1 (.c 1))]) ::
  (2, .vec 3 1 (rp_ 7 (j 0) []) (.c 7)) ::
  (1, .vec 62 10 [(j 1), (j 0), (u 40), (u 0), (j 0), (u 0), .ff, (j 0), .ns, .ns] (.c 1)) ::
  (0, .big .z) :: h
def R0h : Heap := R0h0 (R0h1 (R0h2 (R0h3 [])))

set_option maxRecDepth 100000 in
theorem go0_sure : (runP Tryz.prog wt1 37 Tryz.f37 (tupL S0v) S0h S0n tellK).sure (isRes R0v R0h R0n) = true := by kernel_rfl
theorem go0_ok (𝔅 : BigRep) : SpecEnters Tryz.prog 𝔅 37 (atSpec (tupL S0v) S0h S0n R0v R0h R0n) := at_ok (runP_ok fit (wt1_ok 𝔅) Tryz.func37 (by kernel_rfl)) go0_sure
end SX
end Go.Proofs.YtcemhpdhcmlhlaaGreatDoor

/-
  State 1.
-/
namespace Go.Proofs.YtcemhpdhcmlhlaaGreatDoor
open Go.RowKit Go.Deep
namespace SX
/- S1 p: 138 objects of 138 -/
def S1v : SV := (.tup [(q 119), (j 0)])
def S1n : Nat := 577
def S1h0 (h : Heap) : Heap :=
  (576, mpi .i64 [(1, (.t [108, 111, 111, 107])), (2, (.t [114, 101, 112, 97, 121])), (3, (.t [99, 108, 101, 97, 110])), (4, (.t [116, 97, 107, 101])), (5, (.t [107, 101, 101, 112])), (6, (.t [108, 111, 99, 107])), (7, (.t [103, 114, 111, 119])), (8, (.t [100, 111])), (9, (.t [115, 112, 101, 99, 105, 97, 108])), (10, (.t [110, 101, 120, 116])), (11, (.t [111, 110, 101])), (12, (.t [115, 116, 111, 112])), (13, (.t [119, 97, 105, 116])), (14, (.t [100, 114, 97, 105, 110])), (15, (.t [99, 108, 101, 97, 110])), (16, (.t [102, 108, 105, 112]))]) ::
  (575, .it 98) ::
  (573, .vec 3 1 [(j 0)] (.o 574 0)) ::
  (572, .vec 3 1 [(j 0)] (.c 1)) ::
  (571, .cells 24 [(j 0), (j 0), (.t [114, 101, 112, 97, 121]), (j 0)]) ::
  (569, .vec 24 4 [(j 0), (j 0), (.t [108, 111, 111, 107]), (j 0)] (.o 570 0)) ::
  (568, .vec 24 4 [(j 0), (j 0), (.t [108, 111, 111, 107]), (j 0)] (.c 1)) ::
  (146, mpi .i64 [(1, (.t [108, 111, 111, 107])), (2, (.t [114, 101, 112, 97, 121])), (3, (.t [99, 108, 101, 97, 110])), (4, (.t [116, 97, 107, 101])), (5, (.t [107, 101, 101, 112])), (6, (.t [108, 111, 99, 107])), (7, (.t [103, 114, 111, 119])), (8, (.t [100, 111])), (9, (.t [115, 112, 101, 99, 105, 97, 108])), (10, (.t [110, 101, 120, 116])), (11, (.t [111, 110, 101])), (12, (.t [115, 116, 111, 112])), (13, (.t [119, 97, 105, 116])), (14, (.t [100, 114, 97, 105, 110])), (15, (.t [99, 108, 101, 97, 110])), (16, (.t [102, 108, 105, 112]))]) ::
  (145, .it 98) ::
  (143, .vec 3 1 [(j 0)] (.o 144 0)) ::
  (142, .vec 3 1 [(j 0)] (.c 1)) ::
  (141, .cells 24 [(j 0), (j 0), (.t [108, 111, 111, 107]), (j 0)]) ::
  (139, .vec 3 1 [(j 0)] (.o 140 0)) ::
  (138, .vec 3 1 [(j 0)] (.c 1)) ::
  (136, .vec 125 1 [(q 134)] (.o 137 0)) ::
  (135, .vec 125 1 [(q 134)] (.c 1)) ::
  (134, .cells 129 [(j 1), (j 0), (u 40), (u 0), (j 0), (u 0), .ff, (j 0), .ns, .ns, (u 0), (u 0), (j 0), .ff]) ::
  (133, .cells 62 [(j 1), (j 0), (u 40), (u 0), (j 0), (u 0), .ff, (j 0), .ns, .ns]) ::
  (132, .cells 62 [(j 1), (j 0), (u 40), (u 0), (j 0), (u 0), .ff, (j 0), .ns, .ns]) ::
  (130, .vec 118 1 [(q 120), (q 124), (q 128)] (.o 131 0)) ::
  (129, .vec 118 1 [(q 128)] (.c 1)) ::
  (128, .cells 122 ((j 2) :: (rp_ 4 (j 0) [.ff, .ff, (u 0), (u 0)]))) ::
  (125, .vec 118 1 [(q 124)] (.c 1)) ::
  (124, .cells 122 ((j 1) :: (rp_ 4 (j 0) [.ff, .ff, (u 0), (u 0)]))) ::
  (121, .vec 118 1 [(q 120)] (.c 1)) ::
  (120, .cells 122 [(j 0), (j 0), (j 2), (j 0), (j 5), .tt, .ff, (u 1), (u 0)]) ::
  (119, .cells 117 [(q 103), (q 116), (.sl true 130 1 0 3 (.o 131 0)), (.sl true 117 1 0 1 (.c 1)), (.sl true 136 1 0 1 (.o 137 0)), .ns, (.l .i64 (-1)), (.l .i64 (-1)), .ff, .ff, (.m 118)]) ::
  (118, mpi .i64 [(1, (.fn 85 [])), (2, (.fn 86 [])), (3, (.fn 87 [])), (4, (.fn 88 [])), (5, (.fn 89 [])), (6, (.fn 90 [])), (7, (.fn 91 [])), (8, (.fn 92 [])), (9, (.fn 93 [])), (10, (.fn 94 [])), (11, (.fn 95 [])), (12, (.fn 96 [])), (13, (.fn 97 [])), (14, (.fn 98 [])), (15, (.fn 99 [])), (16, (.fn 100 []))]) ::
  (117, .vec 68 1 [(.sl true 139 1 1 0 (.o 140 1))] (.c 1)) ::
  (116, .cells 168 [(q 30), (u 4607632778762754458)]) ::
  (114, .vec 165 1 [(q 112)] (.o 115 0)) ::
  (113, .vec 165 1 [(q 112)] (.c 1)) ::
  (112, .cells 247 ((q 111) :: (rp_ 137 (j 0) [(u 0), (j 0)]))) ::
  (111, .cells 242 [(q 104)]) ::
  (110, mpi .i64 []) ::
  (109, mpi .i64 []) ::
  (108, mpi .i64 []) ::
  (107, mpi .i64 []) ::
  (106, .cells 240 ((q 30) :: (rp_ 256 .ns [(.m 107), (.m 108), (.m 109), (.m 110), (.m 105)]))) ::
  (105, mpi .u64 []) :: h
def S1h1 (h : Heap) : Heap :=
  (104, .cells 234 [(q 30), (q 99), (q 100), .ns, (u 0), (u 0), (u 8192), (u 0)]) ::
  (103, .cells 109 [(q 30), (q 99), (q 100), (q 104), (.sl true 114 1 0 1 (.o 115 0)), (q 106), (.m 101), (q 102), (j 100), .ff, (u 0), (u 0)]) ::
  (102, .cells 231 [.ns]) ::
  (101, mpi .i64 []) ::
  (100, .cells 228 [.np, (j 0)]) ::
  (99, .cells 225 [(.m 96), (.m 97), (.m 98)]) ::
  (98, .mp .non []) ::
  (97, mpi .u64 []) ::
  (96, mpi .i64 []) ::
  (95, .cells 302 [(u 0), (u 0), (u 0)]) ::
  (94, .cells 302 [(u 0), (u 0), (u 0)]) ::
  (93, .cells 302 [(u 0), (u 0), (u 0)]) ::
  (92, .cells 302 [(u 0), (u 0), (u 0)]) ::
  (91, .cells 302 [(u 0), (u 0), (u 0)]) ::
  (90, .cells 302 [(u 0), (u 0), (u 0)]) ::
  (89, .cells 302 [(u 0), (u 0), (u 0)]) ::
  (88, .cells 302 [(u 0), (u 0), (u 0)]) ::
  (87, .cells 302 [(u 0), (u 0), (u 0)]) ::
  (86, .cells 302 [(u 0), (u 0), (u 0)]) ::
  (85, .cells 302 [(u 0), (u 0), (u 0)]) ::
  (84, .cells 302 [(u 0), (u 0), (u 0)]) ::
  (83, .cells 302 [(u 0), (u 0), (u 0)]) ::
  (82, .cells 302 [(u 0), (u 0), (u 0)]) ::
  (81, .cells 302 [(u 0), (u 0), (u 0)]) ::
  (80, .cells 302 [(u 0), (u 0), (u 0)]) ::
  (79, .cells 302 [(u 0), (u 0), (u 0)]) ::
  (78, .cells 302 [(u 0), (u 0), (u 0)]) ::
  (77, .cells 302 [(u 0), (u 0), (u 0)]) ::
  (76, .cells 302 [(u 0), (u 0), (u 0)]) ::
  (75, .cells 302 [(u 0), (u 0), (u 0)]) ::
  (74, .cells 302 [(u 0), (u 0), (u 0)]) ::
  (73, .cells 302 [(u 0), (u 0), (u 0)]) ::
  (72, .cells 302 [(u 0), (u 0), (u 0)]) ::
  (71, .cells 302 [(u 0), (u 0), (u 0)]) ::
  (70, .cells 302 [(u 0), (u 0), (u 0)]) ::
  (69, .cells 302 [(u 0), (u 0), (u 0)]) ::
  (68, .cells 302 [(u 0), (u 0), (u 0)]) ::
  (67, .cells 302 [(u 0), (u 0), (u 0)]) ::
  (66, .cells 302 [(u 0), (u 0), (u 0)]) ::
  (65, .cells 302 [(u 0), (u 0), (u 0)]) :: h
def S1h2 (h : Heap) : Heap :=
  (64, .cells 302 [(u 0), (u 0), (u 0)]) ::
  (63, .cells 302 [(u 0), (u 0), (u 0)]) ::
  (62, .cells 302 [(u 0), (u 0), (u 0)]) ::
  (61, .cells 302 [(u 0), (u 0), (u 0)]) ::
  (60, .cells 302 [(u 0), (u 0), (u 0)]) ::
  (59, .cells 302 [(u 0), (u 0), (u 0)]) ::
  (58, .cells 302 [(u 0), (u 0), (u 0)]) ::
  (57, .cells 302 [(u 0), (u 0), (u 0)]) ::
  (56, .cells 302 [(u 0), (u 0), (u 0)]) ::
  (55, .cells 302 [(u 0), (u 0), (u 0)]) ::
  (54, .cells 302 [(u 0), (u 0), (u 0)]) ::
  (53, .cells 302 [(u 0), (u 0), (u 0)]) ::
  (52, .cells 302 [(u 0), (u 0), (u 0)]) ::
  (51, .cells 302 [(u 0), (u 0), (u 0)]) ::
  (50, .cells 302 [(u 0), (u 0), (u 0)]) ::
  (49, .cells 302 [(u 0), (u 0), (u 0)]) ::
  (48, .cells 302 [(u 0), (u 0), (u 0)]) ::
  (47, .cells 302 [(u 0), (u 0), (u 0)]) ::
  (46, .cells 302 [(u 0), (u 0), (u 0)]) ::
  (45, .cells 302 [(u 0), (u 0), (u 0)]) ::
  (44, .cells 302 [(u 0), (u 0), (u 0)]) ::
  (43, .cells 302 [(u 0), (u 0), (u 0)]) ::
  (42, .cells 302 [(u 0), (u 0), (u 0)]) ::
  (41, .cells 302 [(u 0), (u 0), (u 0)]) ::
  (40, .cells 302 [(u 0), (u 0), (u 0)]) ::
  (39, .cells 302 [(u 0), (u 0), (u 0)]) ::
  (38, .cells 302 [(u 0), (u 0), (u 0)]) ::
  (37, .cells 302 [(u 0), (u 0), (u 0)]) ::
  (36, .cells 302 [(u 0), (u 0), (u 0)]) ::
  (35, .cells 302 [(u 0), (u 0), (u 0)]) ::
  (34, .cells 302 [(u 0), (u 0), (u 0)]) ::
  (33, .cells 302 [(u 0), (u 0), (u 0)]) ::
  (32, .cells 302 [(u 0), (u 0), (u 0)]) ::
  (31, .cells 300 [(j 1), .ns, .np, (j 0)]) ::
  (30, .cells 210 [(q 9), (q 10), (q 28), (q 31), (.m 29), (q 32), (q 33), (q 34), (q 35), (q 36), (q 37), (q 38), (q 39), (q 40), (q 41), (q 42), (q 43), (q 44), (q 45), (q 46), (q 47), (q 48), (q 49), (q 50), (q 51), (q 52), (q 53), (q 54), (q 55), (q 56), (q 57), (q 58), (q 59), (q 60), (q 61), (q 62), (q 63), (q 64), (q 65), (q 66), (q 67), (q 68), (q 69), (q 70), (q 71), (q 72), (q 73), (q 74), (q 75), (q 76), (q 77), (q 78), (q 79), (q 80), (q 81), (q 82), (q 83), (q 84), (q 85), (q 86), (q 87), (q 88), (q 89), (q 90), (q 91), (q 92), (q 93), (q 94), (q 95), (u 0), (u 0)]) ::
  (29, mpi .i64 []) ::
  (28, .cells 296 [.ns, (u 0), .ns, (.m 27)]) ::
  (27, mpi .u64 []) ::
  (25, .vec 351 1 [(.m 11), (.m 15), (.m 19), (.m 23)] (.o 26 0)) ::
  (24, .vec 351 1 [(.m 23)] (.c 1)) :: h
def S1h3 (h : Heap) : Heap :=
  (23, mpi .u64 []) ::
  (20, .vec 351 1 [(.m 19)] (.c 1)) ::
  (19, mpi .u64 []) ::
  (16, .vec 351 1 [(.m 15)] (.c 1)) ::
  (15, mpi .u64 []) ::
  (12, .vec 351 1 [(.m 11)] (.c 1)) ::
  (11, mpi .u64 []) ::
  (10, .cells 292 [.ns, (u 0), .ns, (u 0), .ns, (u 0), .ns, (u 0), (.sl true 25 1 0 4 (.o 26 0))]) ::
  (9, .cells 220 (rp_ 4 .ns [(u 0), .ns, (u 0), .ns, (u 0), (.m 7), (.m 8)])) ::
  (8, mpi .u64 []) ::
  (7, mpi .u64 []) ::
  (6, .cells 65 [.ns, .ns, .ns]) ::
  (5, .cells 65 [.ns, .ns, .ns]) ::
  (4, .cells 65 [.ns, .ns, .ns]) ::
  (3, .cells 67 [.ns, .ns, .ns, (j 1), (j 100), (.sl true 1 10 0 1 (.c 1))]) ::
  (2, .vec 3 1 (rp_ 7 (j 0) []) (.c 7)) ::
  (1, .vec 62 10 [(j 1), (j 0), (u 40), (u 0), (j 0), (u 0), .ff, (j 0), .ns, .ns] (.c 1)) ::
  (0, .big .z) :: h
def S1h : Heap := S1h0 (S1h1 (S1h2 (S1h3 [])))
end SX
end Go.Proofs.YtcemhpdhcmlhlaaGreatDoor

/-
  The step from state 1.
-/
namespace Go.Proofs.YtcemhpdhcmlhlaaGreatDoor
open Go.RowKit Go.Deep
namespace SX
/- R1 r: 138 objects of 144 -/
def R1v : SV := (.tup [(j 0), (j 0)])
def R1n : Nat := 584
def R1h0 (h : Heap) : Heap :=
  (576, mpi .i64 [(1, (.t [108, 111, 111, 107])), (2, (.t [114, 101, 112, 97, 121])), (3, (.t [99, 108, 101, 97, 110])), (4, (.t [116, 97, 107, 101])), (5, (.t [107, 101, 101, 112])), (6, (.t [108, 111, 99, 107])), (7, (.t [103, 114, 111, 119])), (8, (.t [100, 111])), (9, (.t [115, 112, 101, 99, 105, 97, 108])), (10, (.t [110, 101, 120, 116])), (11, (.t [111, 110, 101])), (12, (.t [115, 116, 111, 112])), (13, (.t [119, 97, 105, 116])), (14, (.t [100, 114, 97, 105, 110])), (15, (.t [99, 108, 101, 97, 110])), (16, (.t [102, 108, 105, 112]))]) ::
  (575, .it 98) ::
  (573, .vec 3 1 [(j 0)] (.o 574 0)) ::
  (572, .vec 3 1 [(j 0)] (.c 1)) ::
  (571, .cells 24 [(j 0), (j 0), (.t [114, 101, 112, 97, 121]), (j 0)]) ::
  (569, .vec 24 4 [(j 0), (j 0), (.t [108, 111, 111, 107]), (j 0)] (.o 570 0)) ::
  (568, .vec 24 4 [(j 0), (j 0), (.t [108, 111, 111, 107]), (j 0)] (.c 1)) ::
  (146, mpi .i64 [(1, (.t [108, 111, 111, 107])), (2, (.t [114, 101, 112, 97, 121])), (3, (.t [99, 108, 101, 97, 110])), (4, (.t [116, 97, 107, 101])), (5, (.t [107, 101, 101, 112])), (6, (.t [108, 111, 99, 107])), (7, (.t [103, 114, 111, 119])), (8, (.t [100, 111])), (9, (.t [115, 112, 101, 99, 105, 97, 108])), (10, (.t [110, 101, 120, 116])), (11, (.t [111, 110, 101])), (12, (.t [115, 116, 111, 112])), (13, (.t [119, 97, 105, 116])), (14, (.t [100, 114, 97, 105, 110])), (15, (.t [99, 108, 101, 97, 110])), (16, (.t [102, 108, 105, 112]))]) ::
  (145, .it 98) ::
  (143, .vec 3 1 [(j 0)] (.o 144 0)) ::
  (142, .vec 3 1 [(j 0)] (.c 1)) ::
  (141, .cells 24 [(j 0), (j 0), (.t [108, 111, 111, 107]), (j 0)]) ::
  (139, .vec 3 1 [(j 0)] (.o 140 0)) ::
  (138, .vec 3 1 [(j 0)] (.c 1)) ::
  (136, .vec 125 1 [(q 134)] (.o 137 0)) ::
  (135, .vec 125 1 [(q 134)] (.c 1)) ::
  (134, .cells 129 [(j 1), (j 0), (u 40), (u 0), (j 0), (u 0), .ff, (j 0), .ns, .ns, (u 0), (u 0), (j 0), .ff]) ::
  (133, .cells 62 [(j 1), (j 0), (u 40), (u 0), (j 0), (u 0), .ff, (j 0), .ns, .ns]) ::
  (132, .cells 62 [(j 1), (j 0), (u 40), (u 0), (j 0), (u 0), .ff, (j 0), .ns, .ns]) ::
  (130, .vec 118 1 [(q 120), (q 124), (q 128)] (.o 131 0)) ::
  (129, .vec 118 1 [(q 128)] (.c 1)) ::
  (128, .cells 122 ((j 2) :: (rp_ 4 (j 0) [.ff, .ff, (u 0), (u 0)]))) ::
  (125, .vec 118 1 [(q 124)] (.c 1)) ::
  (124, .cells 122 ((j 1) :: (rp_ 4 (j 0) [.ff, .ff, (u 0), (u 0)]))) ::
  (121, .vec 118 1 [(q 120)] (.c 1)) ::
  (120, .cells 122 [(j 0), (j 0), (j 4), (j 0), (j 5), .tt, .ff, (u 1), (u 0)]) ::
  (119, .cells 117 [(q 103), (q 116), (.sl true 130 1 0 3 (.o 131 0)), (.sl true 117 1 0 1 (.c 1)), (.sl true 136 1 0 1 (.o 137 0)), .ns, (.l .i64 (-1)), (.l .i64 (-1)), .ff, .ff, (.m 118)]) ::
  (118, mpi .i64 [(1, (.fn 85 [])), (2, (.fn 86 [])), (3, (.fn 87 [])), (4, (.fn 88 [])), (5, (.fn 89 [])), (6, (.fn 90 [])), (7, (.fn 91 [])), (8, (.fn 92 [])), (9, (.fn 93 [])), (10, (.fn 94 [])), (11, (.fn 95 [])), (12, (.fn 96 [])), (13, (.fn 97 [])), (14, (.fn 98 [])), (15, (.fn 99 [])), (16, (.fn 100 []))]) ::
  (117, .vec 68 1 [(.sl true 139 1 1 0 (.o 140 1))] (.c 1)) ::
  (116, .cells 168 [(q 30), (u 4607632778762754458)]) ::
  (114, .vec 165 1 [(q 112)] (.o 115 0)) ::
  (113, .vec 165 1 [(q 112)] (.c 1)) ::
  (112, .cells 247 ((q 111) :: (rp_ 137 (j 0) [(u 0), (j 0)]))) ::
  (111, .cells 242 [(q 104)]) ::
  (110, mpi .i64 []) ::
  (109, mpi .i64 []) ::
  (108, mpi .i64 []) ::
  (107, mpi .i64 []) ::
  (106, .cells 240 ((q 30) :: (rp_ 256 .ns [(.m 107), (.m 108), (.m 109), (.m 110), (.m 105)]))) ::
  (105, mpi .u64 []) :: h
def R1h1 (h : Heap) : Heap :=
  (104, .cells 234 [(q 30), (q 99), (q 100), .ns, (u 0), (u 0), (u 8192), (u 0)]) ::
  (103, .cells 109 [(q 30), (q 99), (q 100), (q 104), (.sl true 114 1 0 1 (.o 115 0)), (q 106), (.m 101), (q 102), (j 100), .ff, (u 0), (u 0)]) ::
  (102, .cells 231 [.ns]) ::
  (101, mpi .i64 []) ::
  (100, .cells 228 [.np, (j 0)]) ::
  (99, .cells 225 [(.m 96), (.m 97), (.m 98)]) ::
  (98, .mp .non []) ::
  (97, mpi .u64 []) ::
  (96, mpi .i64 []) ::
  (95, .cells 302 [(u 0), (u 0), (u 0)]) ::
  (94, .cells 302 [(u 0), (u 0), (u 0)]) ::
  (93, .cells 302 [(u 0), (u 0), (u 0)]) ::
  (92, .cells 302 [(u 0), (u 0), (u 0)]) ::
  (91, .cells 302 [(u 0), (u 0), (u 0)]) ::
  (90, .cells 302 [(u 0), (u 0), (u 0)]) ::
  (89, .cells 302 [(u 0), (u 0), (u 0)]) ::
  (88, .cells 302 [(u 0), (u 0), (u 0)]) ::
  (87, .cells 302 [(u 0), (u 0), (u 0)]) ::
  (86, .cells 302 [(u 0), (u 0), (u 0)]) ::
  (85, .cells 302 [(u 0), (u 0), (u 0)]) ::
  (84, .cells 302 [(u 0), (u 0), (u 0)]) ::
  (83, .cells 302 [(u 0), (u 0), (u 0)]) ::
  (82, .cells 302 [(u 0), (u 0), (u 0)]) ::
  (81, .cells 302 [(u 0), (u 0), (u 0)]) ::
  (80, .cells 302 [(u 0), (u 0), (u 0)]) ::
  (79, .cells 302 [(u 0), (u 0), (u 0)]) ::
  (78, .cells 302 [(u 0), (u 0), (u 0)]) ::
  (77, .cells 302 [(u 0), (u 0), (u 0)]) ::
  (76, .cells 302 [(u 0), (u 0), (u 0)]) ::
  (75, .cells 302 [(u 0), (u 0), (u 0)]) ::
  (74, .cells 302 [(u 0), (u 0), (u 0)]) ::
  (73, .cells 302 [(u 0), (u 0), (u 0)]) ::
  (72, .cells 302 [(u 0), (u 0), (u 0)]) ::
  (71, .cells 302 [(u 0), (u 0), (u 0)]) ::
  (70, .cells 302 [(u 0), (u 0), (u 0)]) ::
  (69, .cells 302 [(u 0), (u 0), (u 0)]) ::
  (68, .cells 302 [(u 0), (u 0), (u 0)]) ::
  (67, .cells 302 [(u 0), (u 0), (u 0)]) ::
  (66, .cells 302 [(u 0), (u 0), (u 0)]) ::
  (65, .cells 302 [(u 0), (u 0), (u 0)]) :: h
def R1h2 (h : Heap) : Heap :=
  (64, .cells 302 [(u 0), (u 0), (u 0)]) ::
  (63, .cells 302 [(u 0), (u 0), (u 0)]) ::
  (62, .cells 302 [(u 0), (u 0), (u 0)]) ::
  (61, .cells 302 [(u 0), (u 0), (u 0)]) ::
  (60, .cells 302 [(u 0), (u 0), (u 0)]) ::
  (59, .cells 302 [(u 0), (u 0), (u 0)]) ::
  (58, .cells 302 [(u 0), (u 0), (u 0)]) ::
  (57, .cells 302 [(u 0), (u 0), (u 0)]) ::
  (56, .cells 302 [(u 0), (u 0), (u 0)]) ::
  (55, .cells 302 [(u 0), (u 0), (u 0)]) ::
  (54, .cells 302 [(u 0), (u 0), (u 0)]) ::
  (53, .cells 302 [(u 0), (u 0), (u 0)]) ::
  (52, .cells 302 [(u 0), (u 0), (u 0)]) ::
  (51, .cells 302 [(u 0), (u 0), (u 0)]) ::
  (50, .cells 302 [(u 0), (u 0), (u 0)]) ::
  (49, .cells 302 [(u 0), (u 0), (u 0)]) ::
  (48, .cells 302 [(u 0), (u 0), (u 0)]) ::
  (47, .cells 302 [(u 0), (u 0), (u 0)]) ::
  (46, .cells 302 [(u 0), (u 0), (u 0)]) ::
  (45, .cells 302 [(u 0), (u 0), (u 0)]) ::
  (44, .cells 302 [(u 0), (u 0), (u 0)]) ::
  (43, .cells 302 [(u 0), (u 0), (u 0)]) ::
  (42, .cells 302 [(u 0), (u 0), (u 0)]) ::
  (41, .cells 302 [(u 0), (u 0), (u 0)]) ::
  (40, .cells 302 [(u 0), (u 0), (u 0)]) ::
  (39, .cells 302 [(u 0), (u 0), (u 0)]) ::
  (38, .cells 302 [(u 0), (u 0), (u 0)]) ::
  (37, .cells 302 [(u 0), (u 0), (u 0)]) ::
  (36, .cells 302 [(u 0), (u 0), (u 0)]) ::
  (35, .cells 302 [(u 0), (u 0), (u 0)]) ::
  (34, .cells 302 [(u 0), (u 0), (u 0)]) ::
  (33, .cells 302 [(u 0), (u 0), (u 0)]) ::
  (32, .cells 302 [(u 0), (u 0), (u 0)]) ::
  (31, .cells 300 [(j 1), .ns, .np, (j 0)]) ::
  (30, .cells 210 [(q 9), (q 10), (q 28), (q 31), (.m 29), (q 32), (q 33), (q 34), (q 35), (q 36), (q 37), (q 38), (q 39), (q 40), (q 41), (q 42), (q 43), (q 44), (q 45), (q 46), (q 47), (q 48), (q 49), (q 50), (q 51), (q 52), (q 53), (q 54), (q 55), (q 56), (q 57), (q 58), (q 59), (q 60), (q 61), (q 62), (q 63), (q 64), (q 65), (q 66), (q 67), (q 68), (q 69), (q 70), (q 71), (q 72), (q 73), (q 74), (q 75), (q 76), (q 77), (q 78), (q 79), (q 80), (q 81), (q 82), (q 83), (q 84), (q 85), (q 86), (q 87), (q 88), (q 89), (q 90), (q 91), (q 92), (q 93), (q 94), (q 95), (u 0), (u 0)]) ::
  (29, mpi .i64 []) ::
  (28, .cells 296 [.ns, (u 0), .ns, (.m 27)]) ::
  (27, mpi .u64 []) ::
  (25, .vec 351 1 [(.m 11), (.m 15), (.m 19), (.m 23)] (.o 26 0)) ::
  (24, .vec 351 1 [(.m 23)] (.c 1)) :: h
def R1h3 (h : Heap) : Heap :=
  (23, mpi .u64 []) ::
  (20, .vec 351 1 [(.m 19)] (.c 1)) ::
  (19, mpi .u64 []) ::
  (16, .vec 351 1 [(.m 15)] (.c 1)) ::
  (15, mpi .u64 []) ::
  (12, .vec 351 1 [(.m 11)] (.c 1)) ::
  (11, mpi .u64 []) ::
  (10, .cells 292 [.ns, (u 0), .ns, (u 0), .ns, (u 0), .ns, (u 0), (.sl true 25 1 0 4 (.o 26 0))]) ::
  (9, .cells 220 (rp_ 4 .ns [(u 0), .ns, (u 0), .ns, (u 0), (.m 7), (.m 8)])) ::
  (8, mpi .u64 []) ::
  (7, mpi .u64 []) ::
  (6, .cells 65 [.ns, .ns, .ns]) ::
  (5, .cells 65 [.ns, .ns, .ns]) ::
  (4, .cells 65 [.ns, .ns, .ns]) ::
  (3, .cells 67 [.ns, .ns, .ns, (j 1), (j 100), (.sl true 1 10 0 1 (.c 1))]) ::
  (2, .vec 3 1 (rp_ 7 (j 0) []) (.c 7)) ::
  (1, .vec 62 10 [(j 1), (j 0), (u 40), (u 0), (j 0), (u 0), .ff, (j 0), .ns, .ns] (.c 1)) ::
  (0, .big .z) :: h
def R1h : Heap := R1h0 (R1h1 (R1h2 (R1h3 [])))

set_option maxRecDepth 100000 in
theorem go1_sure : (runP Tryz.prog wt1 37 Tryz.f37 (tupL S1v) S1h S1n tellK).sure (isRes R1v R1h R1n) = true := by kernel_rfl
theorem go1_ok (𝔅 : BigRep) : SpecEnters Tryz.prog 𝔅 37 (atSpec (tupL S1v) S1h S1n R1v R1h R1n) := at_ok (runP_ok fit (wt1_ok 𝔅) Tryz.func37 (by kernel_rfl)) go1_sure
end SX
end Go.Proofs.YtcemhpdhcmlhlaaGreatDoor

/-
  State 2.
-/
namespace Go.Proofs.YtcemhpdhcmlhlaaGreatDoor
open Go.RowKit Go.Deep
namespace SX
/- S2 p: 145 objects of 145 -/
def S2v : SV := (.tup [(q 119), (j 0)])
def S2n : Nat := 593
def S2h0 (h : Heap) : Heap :=
  (592, mpi .i64 [(1, (.t [108, 111, 111, 107])), (2, (.t [114, 101, 112, 97, 121])), (3, (.t [99, 108, 101, 97, 110])), (4, (.t [116, 97, 107, 101])), (5, (.t [107, 101, 101, 112])), (6, (.t [108, 111, 99, 107])), (7, (.t [103, 114, 111, 119])), (8, (.t [100, 111])), (9, (.t [115, 112, 101, 99, 105, 97, 108])), (10, (.t [110, 101, 120, 116])), (11, (.t [111, 110, 101])), (12, (.t [115, 116, 111, 112])), (13, (.t [119, 97, 105, 116])), (14, (.t [100, 114, 97, 105, 110])), (15, (.t [99, 108, 101, 97, 110])), (16, (.t [102, 108, 105, 112]))]) ::
  (591, .it 98) ::
  (589, .vec 3 1 [(j 0)] (.o 590 0)) ::
  (588, .vec 3 1 [(j 0)] (.c 1)) ::
  (587, .cells 24 [(j 0), (j 0), (.t [116, 97, 107, 101]), (j 0)]) ::
  (585, .vec 24 4 [(j 0), (j 0), (.t [108, 111, 111, 107]), (j 0), (j 0), (j 0), (.t [114, 101, 112, 97, 121]), (j 0)] (.o 586 0)) ::
  (584, .vec 24 4 [(j 0), (j 0), (.t [114, 101, 112, 97, 121]), (j 0)] (.c 1)) ::
  (576, mpi .i64 [(1, (.t [108, 111, 111, 107])), (2, (.t [114, 101, 112, 97, 121])), (3, (.t [99, 108, 101, 97, 110])), (4, (.t [116, 97, 107, 101])), (5, (.t [107, 101, 101, 112])), (6, (.t [108, 111, 99, 107])), (7, (.t [103, 114, 111, 119])), (8, (.t [100, 111])), (9, (.t [115, 112, 101, 99, 105, 97, 108])), (10, (.t [110, 101, 120, 116])), (11, (.t [111, 110, 101])), (12, (.t [115, 116, 111, 112])), (13, (.t [119, 97, 105, 116])), (14, (.t [100, 114, 97, 105, 110])), (15, (.t [99, 108, 101, 97, 110])), (16, (.t [102, 108, 105, 112]))]) ::
  (575, .it 98) ::
  (573, .vec 3 1 [(j 0)] (.o 574 0)) ::
  (572, .vec 3 1 [(j 0)] (.c 1)) ::
  (571, .cells 24 [(j 0), (j 0), (.t [114, 101, 112, 97, 121]), (j 0)]) ::
  (569, .gone) ::
  (568, .vec 24 4 [(j 0), (j 0), (.t [108, 111, 111, 107]), (j 0)] (.c 1)) ::
  (146, mpi .i64 [(1, (.t [108, 111, 111, 107])), (2, (.t [114, 101, 112, 97, 121])), (3, (.t [99, 108, 101, 97, 110])), (4, (.t [116, 97, 107, 101])), (5, (.t [107, 101, 101, 112])), (6, (.t [108, 111, 99, 107])), (7, (.t [103, 114, 111, 119])), (8, (.t [100, 111])), (9, (.t [115, 112, 101, 99, 105, 97, 108])), (10, (.t [110, 101, 120, 116])), (11, (.t [111, 110, 101])), (12, (.t [115, 116, 111, 112])), (13, (.t [119, 97, 105, 116])), (14, (.t [100, 114, 97, 105, 110])), (15, (.t [99, 108, 101, 97, 110])), (16, (.t [102, 108, 105, 112]))]) ::
  (145, .it 98) ::
  (143, .vec 3 1 [(j 0)] (.o 144 0)) ::
  (142, .vec 3 1 [(j 0)] (.c 1)) ::
  (141, .cells 24 [(j 0), (j 0), (.t [108, 111, 111, 107]), (j 0)]) ::
  (139, .vec 3 1 [(j 0)] (.o 140 0)) ::
  (138, .vec 3 1 [(j 0)] (.c 1)) ::
  (136, .vec 125 1 [(q 134)] (.o 137 0)) ::
  (135, .vec 125 1 [(q 134)] (.c 1)) ::
  (134, .cells 129 [(j 1), (j 0), (u 40), (u 0), (j 0), (u 0), .ff, (j 0), .ns, .ns, (u 0), (u 0), (j 0), .ff]) ::
  (133, .cells 62 [(j 1), (j 0), (u 40), (u 0), (j 0), (u 0), .ff, (j 0), .ns, .ns]) ::
  (132, .cells 62 [(j 1), (j 0), (u 40), (u 0), (j 0), (u 0), .ff, (j 0), .ns, .ns]) ::
  (130, .vec 118 1 [(q 120), (q 124), (q 128)] (.o 131 0)) ::
  (129, .vec 118 1 [(q 128)] (.c 1)) ::
  (128, .cells 122 ((j 2) :: (rp_ 4 (j 0) [.ff, .ff, (u 0), (u 0)]))) ::
  (125, .vec 118 1 [(q 124)] (.c 1)) ::
  (124, .cells 122 ((j 1) :: (rp_ 4 (j 0) [.ff, .ff, (u 0), (u 0)]))) ::
  (121, .vec 118 1 [(q 120)] (.c 1)) ::
  (120, .cells 122 [(j 0), (j 0), (j 4), (j 0), (j 5), .tt, .ff, (u 1), (u 0)]) ::
  (119, .cells 117 [(q 103), (q 116), (.sl true 130 1 0 3 (.o 131 0)), (.sl true 117 1 0 1 (.c 1)), (.sl true 136 1 0 1 (.o 137 0)), .ns, (.l .i64 (-1)), (.l .i64 (-1)), .ff, .ff, (.m 118)]) ::
  (118, mpi .i64 [(1, (.fn 85 [])), (2, (.fn 86 [])), (3, (.fn 87 [])), (4, (.fn 88 [])), (5, (.fn 89 [])), (6, (.fn 90 [])), (7, (.fn 91 [])), (8, (.fn 92 [])), (9, (.fn 93 [])), (10, (.fn 94 [])), (11, (.fn 95 [])), (12, (.fn 96 [])), (13, (.fn 97 [])), (14, (.fn 98 [])), (15, (.fn 99 [])), (16, (.fn 100 []))]) ::
  (117, .vec 68 1 [(.sl true 139 1 1 0 (.o 140 1))] (.c 1)) ::
  (116, .cells 168 [(q 30), (u 4607632778762754458)]) ::
  (114, .vec 165 1 [(q 112)] (.o 115 0)) ::
  (113, .vec 165 1 [(q 112)] (.c 1)) ::
  (112, .cells 247 ((q 111) :: (rp_ 137 (j 0) [(u 0), (j 0)]))) :: h
def S2h1 (h : Heap) : Heap :=
  (111, .cells 242 [(q 104)]) ::
  (110, mpi .i64 []) ::
  (109, mpi .i64 []) ::
  (108, mpi .i64 []) ::
  (107, mpi .i64 []) ::
  (106, .cells 240 ((q 30) :: (rp_ 256 .ns [(.m 107), (.m 108), (.m 109), (.m 110), (.m 105)]))) ::
  (105, mpi .u64 []) ::
  (104, .cells 234 [(q 30), (q 99), (q 100), .ns, (u 0), (u 0), (u 8192), (u 0)]) ::
  (103, .cells 109 [(q 30), (q 99), (q 100), (q 104), (.sl true 114 1 0 1 (.o 115 0)), (q 106), (.m 101), (q 102), (j 100), .ff, (u 0), (u 0)]) ::
  (102, .cells 231 [.ns]) ::
  (101, mpi .i64 []) ::
  (100, .cells 228 [.np, (j 0)]) ::
  (99, .cells 225 [(.m 96), (.m 97), (.m 98)]) ::
  (98, .mp .non []) ::
  (97, mpi .u64 []) ::
  (96, mpi .i64 []) ::
  (95, .cells 302 [(u 0), (u 0), (u 0)]) ::
  (94, .cells 302 [(u 0), (u 0), (u 0)]) ::
  (93, .cells 302 [(u 0), (u 0), (u 0)]) ::
  (92, .cells 302 [(u 0), (u 0), (u 0)]) ::
  (91, .cells 302 [(u 0), (u 0), (u 0)]) ::
  (90, .cells 302 [(u 0), (u 0), (u 0)]) ::
  (89, .cells 302 [(u 0), (u 0), (u 0)]) ::
  (88, .cells 302 [(u 0), (u 0), (u 0)]) ::
  (87, .cells 302 [(u 0), (u 0), (u 0)]) ::
  (86, .cells 302 [(u 0), (u 0), (u 0)]) ::
  (85, .cells 302 [(u 0), (u 0), (u 0)]) ::
  (84, .cells 302 [(u 0), (u 0), (u 0)]) ::
  (83, .cells 302 [(u 0), (u 0), (u 0)]) ::
  (82, .cells 302 [(u 0), (u 0), (u 0)]) ::
  (81, .cells 302 [(u 0), (u 0), (u 0)]) ::
  (80, .cells 302 [(u 0), (u 0), (u 0)]) ::
  (79, .cells 302 [(u 0), (u 0), (u 0)]) ::
  (78, .cells 302 [(u 0), (u 0), (u 0)]) ::
  (77, .cells 302 [(u 0), (u 0), (u 0)]) ::
  (76, .cells 302 [(u 0), (u 0), (u 0)]) ::
  (75, .cells 302 [(u 0), (u 0), (u 0)]) ::
  (74, .cells 302 [(u 0), (u 0), (u 0)]) ::
  (73, .cells 302 [(u 0), (u 0), (u 0)]) ::
  (72, .cells 302 [(u 0), (u 0), (u 0)]) :: h
def S2h2 (h : Heap) : Heap :=
  (71, .cells 302 [(u 0), (u 0), (u 0)]) ::
  (70, .cells 302 [(u 0), (u 0), (u 0)]) ::
  (69, .cells 302 [(u 0), (u 0), (u 0)]) ::
  (68, .cells 302 [(u 0), (u 0), (u 0)]) ::
  (67, .cells 302 [(u 0), (u 0), (u 0)]) ::
  (66, .cells 302 [(u 0), (u 0), (u 0)]) ::
  (65, .cells 302 [(u 0), (u 0), (u 0)]) ::
  (64, .cells 302 [(u 0), (u 0), (u 0)]) ::
  (63, .cells 302 [(u 0), (u 0), (u 0)]) ::
  (62, .cells 302 [(u 0), (u 0), (u 0)]) ::
  (61, .cells 302 [(u 0), (u 0), (u 0)]) ::
  (60, .cells 302 [(u 0), (u 0), (u 0)]) ::
  (59, .cells 302 [(u 0), (u 0), (u 0)]) ::
  (58, .cells 302 [(u 0), (u 0), (u 0)]) ::
  (57, .cells 302 [(u 0), (u 0), (u 0)]) ::
  (56, .cells 302 [(u 0), (u 0), (u 0)]) ::
  (55, .cells 302 [(u 0), (u 0), (u 0)]) ::
  (54, .cells 302 [(u 0), (u 0), (u 0)]) ::
  (53, .cells 302 [(u 0), (u 0), (u 0)]) ::
  (52, .cells 302 [(u 0), (u 0), (u 0)]) ::
  (51, .cells 302 [(u 0), (u 0), (u 0)]) ::
  (50, .cells 302 [(u 0), (u 0), (u 0)]) ::
  (49, .cells 302 [(u 0), (u 0), (u 0)]) ::
  (48, .cells 302 [(u 0), (u 0), (u 0)]) ::
  (47, .cells 302 [(u 0), (u 0), (u 0)]) ::
  (46, .cells 302 [(u 0), (u 0), (u 0)]) ::
  (45, .cells 302 [(u 0), (u 0), (u 0)]) ::
  (44, .cells 302 [(u 0), (u 0), (u 0)]) ::
  (43, .cells 302 [(u 0), (u 0), (u 0)]) ::
  (42, .cells 302 [(u 0), (u 0), (u 0)]) ::
  (41, .cells 302 [(u 0), (u 0), (u 0)]) ::
  (40, .cells 302 [(u 0), (u 0), (u 0)]) ::
  (39, .cells 302 [(u 0), (u 0), (u 0)]) ::
  (38, .cells 302 [(u 0), (u 0), (u 0)]) ::
  (37, .cells 302 [(u 0), (u 0), (u 0)]) ::
  (36, .cells 302 [(u 0), (u 0), (u 0)]) ::
  (35, .cells 302 [(u 0), (u 0), (u 0)]) ::
  (34, .cells 302 [(u 0), (u 0), (u 0)]) ::
  (33, .cells 302 [(u 0), (u 0), (u 0)]) ::
  (32, .cells 302 [(u 0), (u 0), (u 0)]) :: h
def S2h3 (h : Heap) : Heap :=
  (31, .cells 300 [(j 1), .ns, .np, (j 0)]) ::
  (30, .cells 210 [(q 9), (q 10), (q 28), (q 31), (.m 29), (q 32), (q 33), (q 34), (q 35), (q 36), (q 37), (q 38), (q 39), (q 40), (q 41), (q 42), (q 43), (q 44), (q 45), (q 46), (q 47), (q 48), (q 49), (q 50), (q 51), (q 52), (q 53), (q 54), (q 55), (q 56), (q 57), (q 58), (q 59), (q 60), (q 61), (q 62), (q 63), (q 64), (q 65), (q 66), (q 67), (q 68), (q 69), (q 70), (q 71), (q 72), (q 73), (q 74), (q 75), (q 76), (q 77), (q 78), (q 79), (q 80), (q 81), (q 82), (q 83), (q 84), (q 85), (q 86), (q 87), (q 88), (q 89), (q 90), (q 91), (q 92), (q 93), (q 94), (q 95), (u 0), (u 0)]) ::
  (29, mpi .i64 []) ::
  (28, .cells 296 [.ns, (u 0), .ns, (.m 27)]) ::
  (27, mpi .u64 []) ::
  (25, .vec 351 1 [(.m 11), (.m 15), (.m 19), (.m 23)] (.o 26 0)) ::
  (24, .vec 351 1 [(.m 23)] (.c 1)) ::
  (23, mpi .u64 []) ::
  (20, .vec 351 1 [(.m 19)] (.c 1)) ::
  (19, mpi .u64 []) ::
  (16, .vec 351 1 [(.m 15)] (.c 1)) ::
  (15, mpi .u64 []) ::
  (12, .vec 351 1 [(.m 11)] (.c 1)) ::
  (11, mpi .u64 []) ::
  (10, .cells 292 [.ns, (u 0), .ns, (u 0), .ns, (u 0), .ns, (u 0), (.sl true 25 1 0 4 (.o 26 0))]) ::
  (9, .cells 220 (rp_ 4 .ns [(u 0), .ns, (u 0), .ns, (u 0), (.m 7), (.m 8)])) ::
  (8, mpi .u64 []) ::
  (7, mpi .u64 []) ::
  (6, .cells 65 [.ns, .ns, .ns]) ::
  (5, .cells 65 [.ns, .ns, .ns]) ::
  (4, .cells 65 [.ns, .ns, .ns]) ::
  (3, .cells 67 [.ns, .ns, .ns, (j 1), (j 100), (.sl true 1 10 0 1 (.c 1))]) ::
  (2, .vec 3 1 (rp_ 7 (j 0) []) (.c 7)) ::
  (1, .vec 62 10 [(j 1), (j 0), (u 40), (u 0), (j 0), (u 0), .ff, (j 0), .ns, .ns] (.c 1)) ::
  (0, .big .z) :: h
def S2h : Heap := S2h0 (S2h1 (S2h2 (S2h3 [])))
end SX
end Go.Proofs.YtcemhpdhcmlhlaaGreatDoor

/-
  The step from state 2.
-/
namespace Go.Proofs.YtcemhpdhcmlhlaaGreatDoor
open Go.RowKit Go.Deep
namespace SX
/- R2 r: 144 objects of 153 -/
def R2v : SV := (.tup [(j 0), (j 0)])
def R2n : Nat := 602
def R2h0 (h : Heap) : Heap :=
  (592, mpi .i64 [(1, (.t [108, 111, 111, 107])), (2, (.t [114, 101, 112, 97, 121])), (3, (.t [99, 108, 101, 97, 110])), (4, (.t [116, 97, 107, 101])), (5, (.t [107, 101, 101, 112])), (6, (.t [108, 111, 99, 107])), (7, (.t [103, 114, 111, 119])), (8, (.t [100, 111])), (9, (.t [115, 112, 101, 99, 105, 97, 108])), (10, (.t [110, 101, 120, 116])), (11, (.t [111, 110, 101])), (12, (.t [115, 116, 111, 112])), (13, (.t [119, 97, 105, 116])), (14, (.t [100, 114, 97, 105, 110])), (15, (.t [99, 108, 101, 97, 110])), (16, (.t [102, 108, 105, 112]))]) ::
  (591, .it 98) ::
  (589, .vec 3 1 [(j 0)] (.o 590 0)) ::
  (588, .vec 3 1 [(j 0)] (.c 1)) ::
  (587, .cells 24 [(j 0), (j 0), (.t [116, 97, 107, 101]), (j 0)]) ::
  (585, .vec 24 4 [(j 0), (j 0), (.t [108, 111, 111, 107]), (j 0), (j 0), (j 0), (.t [114, 101, 112, 97, 121]), (j 0)] (.o 586 0)) ::
  (584, .vec 24 4 [(j 0), (j 0), (.t [114, 101, 112, 97, 121]), (j 0)] (.c 1)) ::
  (576, mpi .i64 [(1, (.t [108, 111, 111, 107])), (2, (.t [114, 101, 112, 97, 121])), (3, (.t [99, 108, 101, 97, 110])), (4, (.t [116, 97, 107, 101])), (5, (.t [107, 101, 101, 112])), (6, (.t [108, 111, 99, 107])), (7, (.t [103, 114, 111, 119])), (8, (.t [100, 111])), (9, (.t [115, 112, 101, 99, 105, 97, 108])), (10, (.t [110, 101, 120, 116])), (11, (.t [111, 110, 101])), (12, (.t [115, 116, 111, 112])), (13, (.t [119, 97, 105, 116])), (14, (.t [100, 114, 97, 105, 110])), (15, (.t [99, 108, 101, 97, 110])), (16, (.t [102, 108, 105, 112]))]) ::
  (575, .it 98) ::
  (573, .vec 3 1 [(j 0)] (.o 574 0)) ::
  (572, .vec 3 1 [(j 0)] (.c 1)) ::
  (571, .cells 24 [(j 0), (j 0), (.t [114, 101, 112, 97, 121]), (j 0)]) ::
  (568, .vec 24 4 [(j 0), (j 0), (.t [108, 111, 111, 107]), (j 0)] (.c 1)) ::
  (146, mpi .i64 [(1, (.t [108, 111, 111, 107])), (2, (.t [114, 101, 112, 97, 121])), (3, (.t [99, 108, 101, 97, 110])), (4, (.t [116, 97, 107, 101])), (5, (.t [107, 101, 101, 112])), (6, (.t [108, 111, 99, 107])), (7, (.t [103, 114, 111, 119])), (8, (.t [100, 111])), (9, (.t [115, 112, 101, 99, 105, 97, 108])), (10, (.t [110, 101, 120, 116])), (11, (.t [111, 110, 101])), (12, (.t [115, 116, 111, 112])), (13, (.t [119, 97, 105, 116])), (14, (.t [100, 114, 97, 105, 110])), (15, (.t [99, 108, 101, 97, 110])), (16, (.t [102, 108, 105, 112]))]) ::
  (145, .it 98) ::
  (143, .vec 3 1 [(j 0)] (.o 144 0)) ::
  (142, .vec 3 1 [(j 0)] (.c 1)) ::
  (141, .cells 24 [(j 0), (j 0), (.t [108, 111, 111, 107]), (j 0)]) ::
  (139, .vec 3 1 [(j 0)] (.o 140 0)) ::
  (138, .vec 3 1 [(j 0)] (.c 1)) ::
  (136, .vec 125 1 [(q 134)] (.o 137 0)) ::
  (135, .vec 125 1 [(q 134)] (.c 1)) ::
  (134, .cells 129 [(j 1), (j 0), (u 40), (u 0), (j 0), (u 0), .ff, (j 0), .ns, .ns, (u 0), (u 0), (j 0), .ff]) ::
  (133, .cells 62 [(j 1), (j 0), (u 40), (u 0), (j 0), (u 0), .ff, (j 0), .ns, .ns]) ::
  (132, .cells 62 [(j 1), (j 0), (u 40), (u 0), (j 0), (u 0), .ff, (j 0), .ns, .ns]) ::
  (130, .vec 118 1 [(q 120), (q 124), (q 128)] (.o 131 0)) ::
  (129, .vec 118 1 [(q 128)] (.c 1)) ::
  (128, .cells 122 ((j 2) :: (rp_ 4 (j 0) [.ff, .ff, (u 0), (u 0)]))) ::
  (125, .vec 118 1 [(q 124)] (.c 1)) ::
  (124, .cells 122 ((j 1) :: (rp_ 4 (j 0) [.ff, .ff, (u 0), (u 0)]))) ::
  (121, .vec 118 1 [(q 120)] (.c 1)) ::
  (120, .cells 122 [(j 0), (j 0), (j 6), (j 0), (j 5), .tt, .ff, (u 1), (u 0)]) ::
  (119, .cells 117 [(q 103), (q 116), (.sl true 130 1 0 3 (.o 131 0)), (.sl true 117 1 0 1 (.c 1)), (.sl true 136 1 0 1 (.o 137 0)), .ns, (.l .i64 (-1)), (.l .i64 (-1)), .ff, .ff, (.m 118)]) ::
  (118, mpi .i64 [(1, (.fn 85 [])), (2, (.fn 86 [])), (3, (.fn 87 [])), (4, (.fn 88 [])), (5, (.fn 89 [])), (6, (.fn 90 [])), (7, (.fn 91 [])), (8, (.fn 92 [])), (9, (.fn 93 [])), (10, (.fn 94 [])), (11, (.fn 95 [])), (12, (.fn 96 [])), (13, (.fn 97 [])), (14, (.fn 98 [])), (15, (.fn 99 [])), (16, (.fn 100 []))]) ::
  (117, .vec 68 1 [(.sl true 139 1 1 0 (.o 140 1))] (.c 1)) ::
  (116, .cells 168 [(q 30), (u 4607632778762754458)]) ::
  (114, .vec 165 1 [(q 112)] (.o 115 0)) ::
  (113, .vec 165 1 [(q 112)] (.c 1)) ::
  (112, .cells 247 ((q 111) :: (rp_ 137 (j 0) [(u 0), (j 0)]))) ::
  (111, .cells 242 [(q 104)]) :: h
def R2h1 (h : Heap) : Heap :=
  (110, mpi .i64 []) ::
  (109, mpi .i64 []) ::
  (108, mpi .i64 []) ::
  (107, mpi .i64 []) ::
  (106, .cells 240 ((q 30) :: (rp_ 256 .ns [(.m 107), (.m 108), (.m 109), (.m 110), (.m 105)]))) ::
  (105, mpi .u64 []) ::
  (104, .cells 234 [(q 30), (q 99), (q 100), .ns, (u 0), (u 0), (u 8192), (u 0)]) ::
  (103, .cells 109 [(q 30), (q 99), (q 100), (q 104), (.sl true 114 1 0 1 (.o 115 0)), (q 106), (.m 101), (q 102), (j 100), .ff, (u 0), (u 0)]) ::
  (102, .cells 231 [.ns]) ::
  (101, mpi .i64 []) ::
  (100, .cells 228 [.np, (j 0)]) ::
  (99, .cells 225 [(.m 96), (.m 97), (.m 98)]) ::
  (98, .mp .non []) ::
  (97, mpi .u64 []) ::
  (96, mpi .i64 []) ::
  (95, .cells 302 [(u 0), (u 0), (u 0)]) ::
  (94, .cells 302 [(u 0), (u 0), (u 0)]) ::
  (93, .cells 302 [(u 0), (u 0), (u 0)]) ::
  (92, .cells 302 [(u 0), (u 0), (u 0)]) ::
  (91, .cells 302 [(u 0), (u 0), (u 0)]) ::
  (90, .cells 302 [(u 0), (u 0), (u 0)]) ::
  (89, .cells 302 [(u 0), (u 0), (u 0)]) ::
  (88, .cells 302 [(u 0), (u 0), (u 0)]) ::
  (87, .cells 302 [(u 0), (u 0), (u 0)]) ::
  (86, .cells 302 [(u 0), (u 0), (u 0)]) ::
  (85, .cells 302 [(u 0), (u 0), (u 0)]) ::
  (84, .cells 302 [(u 0), (u 0), (u 0)]) ::
  (83, .cells 302 [(u 0), (u 0), (u 0)]) ::
  (82, .cells 302 [(u 0), (u 0), (u 0)]) ::
  (81, .cells 302 [(u 0), (u 0), (u 0)]) ::
  (80, .cells 302 [(u 0), (u 0), (u 0)]) ::
  (79, .cells 302 [(u 0), (u 0), (u 0)]) ::
  (78, .cells 302 [(u 0), (u 0), (u 0)]) ::
  (77, .cells 302 [(u 0), (u 0), (u 0)]) ::
  (76, .cells 302 [(u 0), (u 0), (u 0)]) ::
  (75, .cells 302 [(u 0), (u 0), (u 0)]) ::
  (74, .cells 302 [(u 0), (u 0), (u 0)]) ::
  (73, .cells 302 [(u 0), (u 0), (u 0)]) ::
  (72, .cells 302 [(u 0), (u 0), (u 0)]) ::
  (71, .cells 302 [(u 0), (u 0), (u 0)]) :: h
def R2h2 (h : Heap) : Heap :=
  (70, .cells 302 [(u 0), (u 0), (u 0)]) ::
  (69, .cells 302 [(u 0), (u 0), (u 0)]) ::
  (68, .cells 302 [(u 0), (u 0), (u 0)]) ::
  (67, .cells 302 [(u 0), (u 0), (u 0)]) ::
  (66, .cells 302 [(u 0), (u 0), (u 0)]) ::
  (65, .cells 302 [(u 0), (u 0), (u 0)]) ::
  (64, .cells 302 [(u 0), (u 0), (u 0)]) ::
  (63, .cells 302 [(u 0), (u 0), (u 0)]) ::
  (62, .cells 302 [(u 0), (u 0), (u 0)]) ::
  (61, .cells 302 [(u 0), (u 0), (u 0)]) ::
  (60, .cells 302 [(u 0), (u 0), (u 0)]) ::
  (59, .cells 302 [(u 0), (u 0), (u 0)]) ::
  (58, .cells 302 [(u 0), (u 0), (u 0)]) ::
  (57, .cells 302 [(u 0), (u 0), (u 0)]) ::
  (56, .cells 302 [(u 0), (u 0), (u 0)]) ::
  (55, .cells 302 [(u 0), (u 0), (u 0)]) ::
  (54, .cells 302 [(u 0), (u 0), (u 0)]) ::
  (53, .cells 302 [(u 0), (u 0), (u 0)]) ::
  (52, .cells 302 [(u 0), (u 0), (u 0)]) ::
  (51, .cells 302 [(u 0), (u 0), (u 0)]) ::
  (50, .cells 302 [(u 0), (u 0), (u 0)]) ::
  (49, .cells 302 [(u 0), (u 0), (u 0)]) ::
  (48, .cells 302 [(u 0), (u 0), (u 0)]) ::
  (47, .cells 302 [(u 0), (u 0), (u 0)]) ::
  (46, .cells 302 [(u 0), (u 0), (u 0)]) ::
  (45, .cells 302 [(u 0), (u 0), (u 0)]) ::
  (44, .cells 302 [(u 0), (u 0), (u 0)]) ::
  (43, .cells 302 [(u 0), (u 0), (u 0)]) ::
  (42, .cells 302 [(u 0), (u 0), (u 0)]) ::
  (41, .cells 302 [(u 0), (u 0), (u 0)]) ::
  (40, .cells 302 [(u 0), (u 0), (u 0)]) ::
  (39, .cells 302 [(u 0), (u 0), (u 0)]) ::
  (38, .cells 302 [(u 0), (u 0), (u 0)]) ::
  (37, .cells 302 [(u 0), (u 0), (u 0)]) ::
  (36, .cells 302 [(u 0), (u 0), (u 0)]) ::
  (35, .cells 302 [(u 0), (u 0), (u 0)]) ::
  (34, .cells 302 [(u 0), (u 0), (u 0)]) ::
  (33, .cells 302 [(u 0), (u 0), (u 0)]) ::
  (32, .cells 302 [(u 0), (u 0), (u 0)]) ::
  (31, .cells 300 [(j 1), .ns, .np, (j 0)]) :: h
def R2h3 (h : Heap) : Heap :=
  (30, .cells 210 [(q 9), (q 10), (q 28), (q 31), (.m 29), (q 32), (q 33), (q 34), (q 35), (q 36), (q 37), (q 38), (q 39), (q 40), (q 41), (q 42), (q 43), (q 44), (q 45), (q 46), (q 47), (q 48), (q 49), (q 50), (q 51), (q 52), (q 53), (q 54), (q 55), (q 56), (q 57), (q 58), (q 59), (q 60), (q 61), (q 62), (q 63), (q 64), (q 65), (q 66), (q 67), (q 68), (q 69), (q 70), (q 71), (q 72), (q 73), (q 74), (q 75), (q 76), (q 77), (q 78), (q 79), (q 80), (q 81), (q 82), (q 83), (q 84), (q 85), (q 86), (q 87), (q 88), (q 89), (q 90), (q 91), (q 92), (q 93), (q 94), (q 95), (u 0), (u 0)]) ::
  (29, mpi .i64 []) ::
  (28, .cells 296 [.ns, (u 0), .ns, (.m 27)]) ::
  (27, mpi .u64 []) ::
  (25, .vec 351 1 [(.m 11), (.m 15), (.m 19), (.m 23)] (.o 26 0)) ::
  (24, .vec 351 1 [(.m 23)] (.c 1)) ::
  (23, mpi .u64 []) ::
  (20, .vec 351 1 [(.m 19)] (.c 1)) ::
  (19, mpi .u64 []) ::
  (16, .vec 351 1 [(.m 15)] (.c 1)) ::
  (15, mpi .u64 []) ::
  (12, .vec 351 1 [(.m 11)] (.c 1)) ::
  (11, mpi .u64 []) ::
  (10, .cells 292 [.ns, (u 0), .ns, (u 0), .ns, (u 0), .ns, (u 0), (.sl true 25 1 0 4 (.o 26 0))]) ::
  (9, .cells 220 (rp_ 4 .ns [(u 0), .ns, (u 0), .ns, (u 0), (.m 7), (.m 8)])) ::
  (8, mpi .u64 []) ::
  (7, mpi .u64 []) ::
  (6, .cells 65 [.ns, .ns, .ns]) ::
  (5, .cells 65 [.ns, .ns, .ns]) ::
  (4, .cells 65 [.ns, .ns, .ns]) ::
  (3, .cells 67 [.ns, .ns, .ns, (j 1), (j 100), (.sl true 1 10 0 1 (.c 1))]) ::
  (2, .vec 3 1 (rp_ 7 (j 0) []) (.c 7)) ::
  (1, .vec 62 10 [(j 1), (j 0), (u 40), (u 0), (j 0), (u 0), .ff, (j 0), .ns, .ns] (.c 1)) ::
  (0, .big .z) :: h
def R2h : Heap := R2h0 (R2h1 (R2h2 (R2h3 [])))

set_option maxRecDepth 100000 in
theorem go2_sure : (runP Tryz.prog wt1 37 Tryz.f37 (tupL S2v) S2h S2n tellK).sure (isRes R2v R2h R2n) = true := by kernel_rfl
theorem go2_ok (𝔅 : BigRep) : SpecEnters Tryz.prog 𝔅 37 (atSpec (tupL S2v) S2h S2n R2v R2h R2n) := at_ok (runP_ok fit (wt1_ok 𝔅) Tryz.func37 (by kernel_rfl)) go2_sure
end SX
end Go.Proofs.YtcemhpdhcmlhlaaGreatDoor

/-
  State 3.
-/
namespace Go.Proofs.YtcemhpdhcmlhlaaGreatDoor
open Go.RowKit Go.Deep
namespace SX
/- S3 p: 151 objects of 151 -/
def S3v : SV := (.tup [(q 119), (j 0)])
def S3n : Nat := 611
def S3h0 (h : Heap) : Heap :=
  (610, mpi .i64 [(1, (.t [108, 111, 111, 107])), (2, (.t [114, 101, 112, 97, 121])), (3, (.t [99, 108, 101, 97, 110])), (4, (.t [116, 97, 107, 101])), (5, (.t [107, 101, 101, 112])), (6, (.t [108, 111, 99, 107])), (7, (.t [103, 114, 111, 119])), (8, (.t [100, 111])), (9, (.t [115, 112, 101, 99, 105, 97, 108])), (10, (.t [110, 101, 120, 116])), (11, (.t [111, 110, 101])), (12, (.t [115, 116, 111, 112])), (13, (.t [119, 97, 105, 116])), (14, (.t [100, 114, 97, 105, 110])), (15, (.t [99, 108, 101, 97, 110])), (16, (.t [102, 108, 105, 112]))]) ::
  (609, .it 98) ::
  (607, .vec 3 1 [(j 0)] (.o 608 0)) ::
  (606, .vec 3 1 [(j 0)] (.c 1)) ::
  (605, .cells 24 [(j 0), (j 0), (.t [108, 111, 99, 107]), (j 0)]) ::
  (603, .vec 24 4 [(j 0), (j 0), (.t [108, 111, 111, 107]), (j 0), (j 0), (j 0), (.t [114, 101, 112, 97, 121]), (j 0), (j 0), (j 0), (.t [116, 97, 107, 101]), (j 0)] (.o 604 0)) ::
  (602, .vec 24 4 [(j 0), (j 0), (.t [116, 97, 107, 101]), (j 0)] (.c 1)) ::
  (592, mpi .i64 [(1, (.t [108, 111, 111, 107])), (2, (.t [114, 101, 112, 97, 121])), (3, (.t [99, 108, 101, 97, 110])), (4, (.t [116, 97, 107, 101])), (5, (.t [107, 101, 101, 112])), (6, (.t [108, 111, 99, 107])), (7, (.t [103, 114, 111, 119])), (8, (.t [100, 111])), (9, (.t [115, 112, 101, 99, 105, 97, 108])), (10, (.t [110, 101, 120, 116])), (11, (.t [111, 110, 101])), (12, (.t [115, 116, 111, 112])), (13, (.t [119, 97, 105, 116])), (14, (.t [100, 114, 97, 105, 110])), (15, (.t [99, 108, 101, 97, 110])), (16, (.t [102, 108, 105, 112]))]) ::
  (591, .it 98) ::
  (589, .vec 3 1 [(j 0)] (.o 590 0)) ::
  (588, .vec 3 1 [(j 0)] (.c 1)) ::
  (587, .cells 24 [(j 0), (j 0), (.t [116, 97, 107, 101]), (j 0)]) ::
  (585, .gone) ::
  (584, .vec 24 4 [(j 0), (j 0), (.t [114, 101, 112, 97, 121]), (j 0)] (.c 1)) ::
  (576, mpi .i64 [(1, (.t [108, 111, 111, 107])), (2, (.t [114, 101, 112, 97, 121])), (3, (.t [99, 108, 101, 97, 110])), (4, (.t [116, 97, 107, 101])), (5, (.t [107, 101, 101, 112])), (6, (.t [108, 111, 99, 107])), (7, (.t [103, 114, 111, 119])), (8, (.t [100, 111])), (9, (.t [115, 112, 101, 99, 105, 97, 108])), (10, (.t [110, 101, 120, 116])), (11, (.t [111, 110, 101])), (12, (.t [115, 116, 111, 112])), (13, (.t [119, 97, 105, 116])), (14, (.t [100, 114, 97, 105, 110])), (15, (.t [99, 108, 101, 97, 110])), (16, (.t [102, 108, 105, 112]))]) ::
  (575, .it 98) ::
  (573, .vec 3 1 [(j 0)] (.o 574 0)) ::
  (572, .vec 3 1 [(j 0)] (.c 1)) ::
  (571, .cells 24 [(j 0), (j 0), (.t [114, 101, 112, 97, 121]), (j 0)]) ::
  (568, .vec 24 4 [(j 0), (j 0), (.t [108, 111, 111, 107]), (j 0)] (.c 1)) ::
  (146, mpi .i64 [(1, (.t [108, 111, 111, 107])), (2, (.t [114, 101, 112, 97, 121])), (3, (.t [99, 108, 101, 97, 110])), (4, (.t [116, 97, 107, 101])), (5, (.t [107, 101, 101, 112])), (6, (.t [108, 111, 99, 107])), (7, (.t [103, 114, 111, 119])), (8, (.t [100, 111])), (9, (.t [115, 112, 101, 99, 105, 97, 108])), (10, (.t [110, 101, 120, 116])), (11, (.t [111, 110, 101])), (12, (.t [115, 116, 111, 112])), (13, (.t [119, 97, 105, 116])), (14, (.t [100, 114, 97, 105, 110])), (15, (.t [99, 108, 101, 97, 110])), (16, (.t [102, 108, 105, 112]))]) ::
  (145, .it 98) ::
  (143, .vec 3 1 [(j 0)] (.o 144 0)) ::
  (142, .vec 3 1 [(j 0)] (.c 1)) ::
  (141, .cells 24 [(j 0), (j 0), (.t [108, 111, 111, 107]), (j 0)]) ::
  (139, .vec 3 1 [(j 0)] (.o 140 0)) ::
  (138, .vec 3 1 [(j 0)] (.c 1)) ::
  (136, .vec 125 1 [(q 134)] (.o 137 0)) ::
  (135, .vec 125 1 [(q 134)] (.c 1)) ::
  (134, .cells 129 [(j 1), (j 0), (u 40), (u 0), (j 0), (u 0), .ff, (j 0), .ns, .ns, (u 0), (u 0), (j 0), .ff]) ::
  (133, .cells 62 [(j 1), (j 0), (u 40), (u 0), (j 0), (u 0), .ff, (j 0), .ns, .ns]) ::
  (132, .cells 62 [(j 1), (j 0), (u 40), (u 0), (j 0), (u 0), .ff, (j 0), .ns, .ns]) ::
  (130, .vec 118 1 [(q 120), (q 124), (q 128)] (.o 131 0)) ::
  (129, .vec 118 1 [(q 128)] (.c 1)) ::
  (128, .cells 122 ((j 2) :: (rp_ 4 (j 0) [.ff, .ff, (u 0), (u 0)]))) ::
  (125, .vec 118 1 [(q 124)] (.c 1)) ::
  (124, .cells 122 ((j 1) :: (rp_ 4 (j 0) [.ff, .ff, (u 0), (u 0)]))) ::
  (121, .vec 118 1 [(q 120)] (.c 1)) ::
  (120, .cells 122 [(j 0), (j 0), (j 6), (j 0), (j 5), .tt, .ff, (u 1), (u 0)]) ::
  (119, .cells 117 [(q 103), (q 116), (.sl true 130 1 0 3 (.o 131 0)), (.sl true 117 1 0 1 (.c 1)), (.sl true 136 1 0 1 (.o 137 0)), .ns, (.l .i64 (-1)), (.l .i64 (-1)), .ff, .ff, (.m 118)]) :: h
def S3h1 (h : Heap) : Heap :=
  (118, mpi .i64 [(1, (.fn 85 [])), (2, (.fn 86 [])), (3, (.fn 87 [])), (4, (.fn 88 [])), (5, (.fn 89 [])), (6, (.fn 90 [])), (7, (.fn 91 [])), (8, (.fn 92 [])), (9, (.fn 93 [])), (10, (.fn 94 [])), (11, (.fn 95 [])), (12, (.fn 96 [])), (13, (.fn 97 [])), (14, (.fn 98 [])), (15, (.fn 99 [])), (16, (.fn 100 []))]) ::
  (117, .vec 68 1 [(.sl true 139 1 1 0 (.o 140 1))] (.c 1)) ::
  (116, .cells 168 [(q 30), (u 4607632778762754458)]) ::
  (114, .vec 165 1 [(q 112)] (.o 115 0)) ::
  (113, .vec 165 1 [(q 112)] (.c 1)) ::
  (112, .cells 247 ((q 111) :: (rp_ 137 (j 0) [(u 0), (j 0)]))) ::
  (111, .cells 242 [(q 104)]) ::
  (110, mpi .i64 []) ::
  (109, mpi .i64 []) ::
  (108, mpi .i64 []) ::
  (107, mpi .i64 []) ::
  (106, .cells 240 ((q 30) :: (rp_ 256 .ns [(.m 107), (.m 108), (.m 109), (.m 110), (.m 105)]))) ::
  (105, mpi .u64 []) ::
  (104, .cells 234 [(q 30), (q 99), (q 100), .ns, (u 0), (u 0), (u 8192), (u 0)]) ::
  (103, .cells 109 [(q 30), (q 99), (q 100), (q 104), (.sl true 114 1 0 1 (.o 115 0)), (q 106), (.m 101), (q 102), (j 100), .ff, (u 0), (u 0)]) ::
  (102, .cells 231 [.ns]) ::
  (101, mpi .i64 []) ::
  (100, .cells 228 [.np, (j 0)]) ::
  (99, .cells 225 [(.m 96), (.m 97), (.m 98)]) ::
  (98, .mp .non []) ::
  (97, mpi .u64 []) ::
  (96, mpi .i64 []) ::
  (95, .cells 302 [(u 0), (u 0), (u 0)]) ::
  (94, .cells 302 [(u 0), (u 0), (u 0)]) ::
  (93, .cells 302 [(u 0), (u 0), (u 0)]) ::
  (92, .cells 302 [(u 0), (u 0), (u 0)]) ::
  (91, .cells 302 [(u 0), (u 0), (u 0)]) ::
  (90, .cells 302 [(u 0), (u 0), (u 0)]) ::
  (89, .cells 302 [(u 0), (u 0), (u 0)]) ::
  (88, .cells 302 [(u 0), (u 0), (u 0)]) ::
  (87, .cells 302 [(u 0), (u 0), (u 0)]) ::
  (86, .cells 302 [(u 0), (u 0), (u 0)]) ::
  (85, .cells 302 [(u 0), (u 0), (u 0)]) ::
  (84, .cells 302 [(u 0), (u 0), (u 0)]) ::
  (83, .cells 302 [(u 0), (u 0), (u 0)]) ::
  (82, .cells 302 [(u 0), (u 0), (u 0)]) ::
  (81, .cells 302 [(u 0), (u 0), (u 0)]) ::
  (80, .cells 302 [(u 0), (u 0), (u 0)]) ::
  (79, .cells 302 [(u 0), (u 0), (u 0)]) ::
  (78, .cells 302 [(u 0), (u 0), (u 0)]) :: h
def S3h2 (h : Heap) : Heap :=
  (77, .cells 302 [(u 0), (u 0), (u 0)]) ::
  (76, .cells 302 [(u 0), (u 0), (u 0)]) ::
  (75, .cells 302 [(u 0), (u 0), (u 0)]) ::
  (74, .cells 302 [(u 0), (u 0), (u 0)]) ::
  (73, .cells 302 [(u 0), (u 0), (u 0)]) ::
  (72, .cells 302 [(u 0), (u 0), (u 0)]) ::
  (71, .cells 302 [(u 0), (u 0), (u 0)]) ::
  (70, .cells 302 [(u 0), (u 0), (u 0)]) ::
  (69, .cells 302 [(u 0), (u 0), (u 0)]) ::
  (68, .cells 302 [(u 0), (u 0), (u 0)]) ::
  (67, .cells 302 [(u 0), (u 0), (u 0)]) ::
  (66, .cells 302 [(u 0), (u 0), (u 0)]) ::
  (65, .cells 302 [(u 0), (u 0), (u 0)]) ::
  (64, .cells 302 [(u 0), (u 0), (u 0)]) ::
  (63, .cells 302 [(u 0), (u 0), (u 0)]) ::
  (62, .cells 302 [(u 0), (u 0), (u 0)]) ::
  (61, .cells 302 [(u 0), (u 0), (u 0)]) ::
  (60, .cells 302 [(u 0), (u 0), (u 0)]) ::
  (59, .cells 302 [(u 0), (u 0), (u 0)]) ::
  (58, .cells 302 [(u 0), (u 0), (u 0)]) ::
  (57, .cells 302 [(u 0), (u 0), (u 0)]) ::
  (56, .cells 302 [(u 0), (u 0), (u 0)]) ::
  (55, .cells 302 [(u 0), (u 0), (u 0)]) ::
  (54, .cells 302 [(u 0), (u 0), (u 0)]) ::
  (53, .cells 302 [(u 0), (u 0), (u 0)]) ::
  (52, .cells 302 [(u 0), (u 0), (u 0)]) ::
  (51, .cells 302 [(u 0), (u 0), (u 0)]) ::
  (50, .cells 302 [(u 0), (u 0), (u 0)]) ::
  (49, .cells 302 [(u 0), (u 0), (u 0)]) ::
  (48, .cells 302 [(u 0), (u 0), (u 0)]) ::
  (47, .cells 302 [(u 0), (u 0), (u 0)]) ::
  (46, .cells 302 [(u 0), (u 0), (u 0)]) ::
  (45, .cells 302 [(u 0), (u 0), (u 0)]) ::
  (44, .cells 302 [(u 0), (u 0), (u 0)]) ::
  (43, .cells 302 [(u 0), (u 0), (u 0)]) ::
  (42, .cells 302 [(u 0), (u 0), (u 0)]) ::
  (41, .cells 302 [(u 0), (u 0), (u 0)]) ::
  (40, .cells 302 [(u 0), (u 0), (u 0)]) ::
  (39, .cells 302 [(u 0), (u 0), (u 0)]) ::
  (38, .cells 302 [(u 0), (u 0), (u 0)]) :: h
def S3h3 (h : Heap) : Heap :=
  (37, .cells 302 [(u 0), (u 0), (u 0)]) ::
  (36, .cells 302 [(u 0), (u 0), (u 0)]) ::
  (35, .cells 302 [(u 0), (u 0), (u 0)]) ::
  (34, .cells 302 [(u 0), (u 0), (u 0)]) ::
  (33, .cells 302 [(u 0), (u 0), (u 0)]) ::
  (32, .cells 302 [(u 0), (u 0), (u 0)]) ::
  (31, .cells 300 [(j 1), .ns, .np, (j 0)]) ::
  (30, .cells 210 [(q 9), (q 10), (q 28), (q 31), (.m 29), (q 32), (q 33), (q 34), (q 35), (q 36), (q 37), (q 38), (q 39), (q 40), (q 41), (q 42), (q 43), (q 44), (q 45), (q 46), (q 47), (q 48), (q 49), (q 50), (q 51), (q 52), (q 53), (q 54), (q 55), (q 56), (q 57), (q 58), (q 59), (q 60), (q 61), (q 62), (q 63), (q 64), (q 65), (q 66), (q 67), (q 68), (q 69), (q 70), (q 71), (q 72), (q 73), (q 74), (q 75), (q 76), (q 77), (q 78), (q 79), (q 80), (q 81), (q 82), (q 83), (q 84), (q 85), (q 86), (q 87), (q 88), (q 89), (q 90), (q 91), (q 92), (q 93), (q 94), (q 95), (u 0), (u 0)]) ::
  (29, mpi .i64 []) ::
  (28, .cells 296 [.ns, (u 0), .ns, (.m 27)]) ::
  (27, mpi .u64 []) ::
  (25, .vec 351 1 [(.m 11), (.m 15), (.m 19), (.m 23)] (.o 26 0)) ::
  (24, .vec 351 1 [(.m 23)] (.c 1)) ::
  (23, mpi .u64 []) ::
  (20, .vec 351 1 [(.m 19)] (.c 1)) ::
  (19, mpi .u64 []) ::
  (16, .vec 351 1 [(.m 15)] (.c 1)) ::
  (15, mpi .u64 []) ::
  (12, .vec 351 1 [(.m 11)] (.c 1)) ::
  (11, mpi .u64 []) ::
  (10, .cells 292 [.ns, (u 0), .ns, (u 0), .ns, (u 0), .ns, (u 0), (.sl true 25 1 0 4 (.o 26 0))]) ::
  (9, .cells 220 (rp_ 4 .ns [(u 0), .ns, (u 0), .ns, (u 0), (.m 7), (.m 8)])) ::
  (8, mpi .u64 []) ::
  (7, mpi .u64 []) ::
  (6, .cells 65 [.ns, .ns, .ns]) ::
  (5, .cells 65 [.ns, .ns, .ns]) ::
  (4, .cells 65 [.ns, .ns, .ns]) ::
  (3, .cells 67 [.ns, .ns, .ns, (j 1), (j 100), (.sl true 1 10 0 1 (.c 1))]) ::
  (2, .vec 3 1 (rp_ 7 (j 0) []) (.c 7)) ::
  (1, .vec 62 10 [(j 1), (j 0), (u 40), (u 0), (j 0), (u 0), .ff, (j 0), .ns, .ns] (.c 1)) ::
  (0, .big .z) :: h
def S3h : Heap := S3h0 (S3h1 (S3h2 (S3h3 [])))
end SX
end Go.Proofs.YtcemhpdhcmlhlaaGreatDoor

/-
  The step from state 3.
-/
namespace Go.Proofs.YtcemhpdhcmlhlaaGreatDoor
open Go.RowKit Go.Deep
namespace SX
/- R3 r: 150 objects of 158 -/
def R3v : SV := (.tup [(j 0), (j 0)])
def R3n : Nat := 619
def R3h0 (h : Heap) : Heap :=
  (610, mpi .i64 [(1, (.t [108, 111, 111, 107])), (2, (.t [114, 101, 112, 97, 121])), (3, (.t [99, 108, 101, 97, 110])), (4, (.t [116, 97, 107, 101])), (5, (.t [107, 101, 101, 112])), (6, (.t [108, 111, 99, 107])), (7, (.t [103, 114, 111, 119])), (8, (.t [100, 111])), (9, (.t [115, 112, 101, 99, 105, 97, 108])), (10, (.t [110, 101, 120, 116])), (11, (.t [111, 110, 101])), (12, (.t [115, 116, 111, 112])), (13, (.t [119, 97, 105, 116])), (14, (.t [100, 114, 97, 105, 110])), (15, (.t [99, 108, 101, 97, 110])), (16, (.t [102, 108, 105, 112]))]) ::
  (609, .it 98) ::
  (607, .vec 3 1 [(j 0)] (.o 608 0)) ::
  (606, .vec 3 1 [(j 0)] (.c 1)) ::
  (605, .cells 24 [(j 0), (j 0), (.t [108, 111, 99, 107]), (j 0)]) ::
  (603, .vec 24 4 [(j 0), (j 0), (.t [108, 111, 111, 107]), (j 0), (j 0), (j 0), (.t [114, 101, 112, 97, 121]), (j 0), (j 0), (j 0), (.t [116, 97, 107, 101]), (j 0)] (.o 604 0)) ::
  (602, .vec 24 4 [(j 0), (j 0), (.t [116, 97, 107, 101]), (j 0)] (.c 1)) ::
  (592, mpi .i64 [(1, (.t [108, 111, 111, 107])), (2, (.t [114, 101, 112, 97, 121])), (3, (.t [99, 108, 101, 97, 110])), (4, (.t [116, 97, 107, 101])), (5, (.t [107, 101, 101, 112])), (6, (.t [108, 111, 99, 107])), (7, (.t [103, 114, 111, 119])), (8, (.t [100, 111])), (9, (.t [115, 112, 101, 99, 105, 97, 108])), (10, (.t [110, 101, 120, 116])), (11, (.t [111, 110, 101])), (12, (.t [115, 116, 111, 112])), (13, (.t [119, 97, 105, 116])), (14, (.t [100, 114, 97, 105, 110])), (15, (.t [99, 108, 101, 97, 110])), (16, (.t [102, 108, 105, 112]))]) ::
  (591, .it 98) ::
  (589, .vec 3 1 [(j 0)] (.o 590 0)) ::
  (588, .vec 3 1 [(j 0)] (.c 1)) ::
  (587, .cells 24 [(j 0), (j 0), (.t [116, 97, 107, 101]), (j 0)]) ::
  (584, .vec 24 4 [(j 0), (j 0), (.t [114, 101, 112, 97, 121]), (j 0)] (.c 1)) ::
  (576, mpi .i64 [(1, (.t [108, 111, 111, 107])), (2, (.t [114, 101, 112, 97, 121])), (3, (.t [99, 108, 101, 97, 110])), (4, (.t [116, 97, 107, 101])), (5, (.t [107, 101, 101, 112])), (6, (.t [108, 111, 99, 107])), (7, (.t [103, 114, 111, 119])), (8, (.t [100, 111])), (9, (.t [115, 112, 101, 99, 105, 97, 108])), (10, (.t [110, 101, 120, 116])), (11, (.t [111, 110, 101])), (12, (.t [115, 116, 111, 112])), (13, (.t [119, 97, 105, 116])), (14, (.t [100, 114, 97, 105, 110])), (15, (.t [99, 108, 101, 97, 110])), (16, (.t [102, 108, 105, 112]))]) ::
  (575, .it 98) ::
  (573, .vec 3 1 [(j 0)] (.o 574 0)) ::
  (572, .vec 3 1 [(j 0)] (.c 1)) ::
  (571, .cells 24 [(j 0), (j 0), (.t [114, 101, 112, 97, 121]), (j 0)]) ::
  (568, .vec 24 4 [(j 0), (j 0), (.t [108, 111, 111, 107]), (j 0)] (.c 1)) ::
  (146, mpi .i64 [(1, (.t [108, 111, 111, 107])), (2, (.t [114, 101, 112, 97, 121])), (3, (.t [99, 108, 101, 97, 110])), (4, (.t [116, 97, 107, 101])), (5, (.t [107, 101, 101, 112])), (6, (.t [108, 111, 99, 107])), (7, (.t [103, 114, 111, 119])), (8, (.t [100, 111])), (9, (.t [115, 112, 101, 99, 105, 97, 108])), (10, (.t [110, 101, 120, 116])), (11, (.t [111, 110, 101])), (12, (.t [115, 116, 111, 112])), (13, (.t [119, 97, 105, 116])), (14, (.t [100, 114, 97, 105, 110])), (15, (.t [99, 108, 101, 97, 110])), (16, (.t [102, 108, 105, 112]))]) ::
  (145, .it 98) ::
  (143, .vec 3 1 [(j 0)] (.o 144 0)) ::
  (142, .vec 3 1 [(j 0)] (.c 1)) ::
  (141, .cells 24 [(j 0), (j 0), (.t [108, 111, 111, 107]), (j 0)]) ::
  (139, .vec 3 1 [(j 0)] (.o 140 0)) ::
  (138, .vec 3 1 [(j 0)] (.c 1)) ::
  (136, .vec 125 1 [(q 134)] (.o 137 0)) ::
  (135, .vec 125 1 [(q 134)] (.c 1)) ::
  (134, .cells 129 [(j 1), (j 0), (u 40), (u 0), (j 0), (u 0), .ff, (j 0), .ns, .ns, (u 0), (u 0), (j 0), .ff]) ::
  (133, .cells 62 [(j 1), (j 0), (u 40), (u 0), (j 0), (u 0), .ff, (j 0), .ns, .ns]) ::
  (132, .cells 62 [(j 1), (j 0), (u 40), (u 0), (j 0), (u 0), .ff, (j 0), .ns, .ns]) ::
  (130, .vec 118 1 [(q 120), (q 124), (q 128)] (.o 131 0)) ::
  (129, .vec 118 1 [(q 128)] (.c 1)) ::
  (128, .cells 122 ((j 2) :: (rp_ 4 (j 0) [.ff, .ff, (u 0), (u 0)]))) ::
  (125, .vec 118 1 [(q 124)] (.c 1)) ::
  (124, .cells 122 ((j 1) :: (rp_ 4 (j 0) [.ff, .ff, (u 0), (u 0)]))) ::
  (121, .vec 118 1 [(q 120)] (.c 1)) ::
  (120, .cells 122 [(j 0), (j 0), (j 7), (j 0), (j 5), .tt, .ff, (u 1), (u 0)]) ::
  (119, .cells 117 [(q 103), (q 116), (.sl true 130 1 0 3 (.o 131 0)), (.sl true 117 1 0 1 (.c 1)), (.sl true 136 1 0 1 (.o 137 0)), .ns, (j 0), (.l .i64 (-1)), .ff, .ff, (.m 118)]) ::
  (118, mpi .i64 [(1, (.fn 85 [])), (2, (.fn 86 [])), (3, (.fn 87 [])), (4, (.fn 88 [])), (5, (.fn 89 [])), (6, (.fn 90 [])), (7, (.fn 91 [])), (8, (.fn 92 [])), (9, (.fn 93 [])), (10, (.fn 94 [])), (11, (.fn 95 [])), (12, (.fn 96 [])), (13, (.fn 97 [])), (14, (.fn 98 [])), (15, (.fn 99 [])), (16, (.fn 100 []))]) :: h
def R3h1 (h : Heap) : Heap :=
  (117, .vec 68 1 [(.sl true 139 1 1 0 (.o 140 1))] (.c 1)) ::
  (116, .cells 168 [(q 30), (u 4607632778762754458)]) ::
  (114, .vec 165 1 [(q 112)] (.o 115 0)) ::
  (113, .vec 165 1 [(q 112)] (.c 1)) ::
  (112, .cells 247 ((q 111) :: (rp_ 137 (j 0) [(u 0), (j 0)]))) ::
  (111, .cells 242 [(q 104)]) ::
  (110, mpi .i64 []) ::
  (109, mpi .i64 []) ::
  (108, mpi .i64 []) ::
  (107, mpi .i64 []) ::
  (106, .cells 240 ((q 30) :: (rp_ 256 .ns [(.m 107), (.m 108), (.m 109), (.m 110), (.m 105)]))) ::
  (105, mpi .u64 []) ::
  (104, .cells 234 [(q 30), (q 99), (q 100), .ns, (u 0), (u 0), (u 8192), (u 0)]) ::
  (103, .cells 109 [(q 30), (q 99), (q 100), (q 104), (.sl true 114 1 0 1 (.o 115 0)), (q 106), (.m 101), (q 102), (j 100), .ff, (u 0), (u 0)]) ::
  (102, .cells 231 [.ns]) ::
  (101, mpi .i64 []) ::
  (100, .cells 228 [.np, (j 0)]) ::
  (99, .cells 225 [(.m 96), (.m 97), (.m 98)]) ::
  (98, .mp .non []) ::
  (97, mpi .u64 []) ::
  (96, mpi .i64 []) ::
  (95, .cells 302 [(u 0), (u 0), (u 0)]) ::
  (94, .cells 302 [(u 0), (u 0), (u 0)]) ::
  (93, .cells 302 [(u 0), (u 0), (u 0)]) ::
  (92, .cells 302 [(u 0), (u 0), (u 0)]) ::
  (91, .cells 302 [(u 0), (u 0), (u 0)]) ::
  (90, .cells 302 [(u 0), (u 0), (u 0)]) ::
  (89, .cells 302 [(u 0), (u 0), (u 0)]) ::
  (88, .cells 302 [(u 0), (u 0), (u 0)]) ::
  (87, .cells 302 [(u 0), (u 0), (u 0)]) ::
  (86, .cells 302 [(u 0), (u 0), (u 0)]) ::
  (85, .cells 302 [(u 0), (u 0), (u 0)]) ::
  (84, .cells 302 [(u 0), (u 0), (u 0)]) ::
  (83, .cells 302 [(u 0), (u 0), (u 0)]) ::
  (82, .cells 302 [(u 0), (u 0), (u 0)]) ::
  (81, .cells 302 [(u 0), (u 0), (u 0)]) ::
  (80, .cells 302 [(u 0), (u 0), (u 0)]) ::
  (79, .cells 302 [(u 0), (u 0), (u 0)]) ::
  (78, .cells 302 [(u 0), (u 0), (u 0)]) ::
  (77, .cells 302 [(u 0), (u 0), (u 0)]) :: h
def R3h2 (h : Heap) : Heap :=
  (76, .cells 302 [(u 0), (u 0), (u 0)]) ::
  (75, .cells 302 [(u 0), (u 0), (u 0)]) ::
  (74, .cells 302 [(u 0), (u 0), (u 0)]) ::
  (73, .cells 302 [(u 0), (u 0), (u 0)]) ::
  (72, .cells 302 [(u 0), (u 0), (u 0)]) ::
  (71, .cells 302 [(u 0), (u 0), (u 0)]) ::
  (70, .cells 302 [(u 0), (u 0), (u 0)]) ::
  (69, .cells 302 [(u 0), (u 0), (u 0)]) ::
  (68, .cells 302 [(u 0), (u 0), (u 0)]) ::
  (67, .cells 302 [(u 0), (u 0), (u 0)]) ::
  (66, .cells 302 [(u 0), (u 0), (u 0)]) ::
  (65, .cells 302 [(u 0), (u 0), (u 0)]) ::
  (64, .cells 302 [(u 0), (u 0), (u 0)]) ::
  (63, .cells 302 [(u 0), (u 0), (u 0)]) ::
  (62, .cells 302 [(u 0), (u 0), (u 0)]) ::
  (61, .cells 302 [(u 0), (u 0), (u 0)]) ::
  (60, .cells 302 [(u 0), (u 0), (u 0)]) ::
  (59, .cells 302 [(u 0), (u 0), (u 0)]) ::
  (58, .cells 302 [(u 0), (u 0), (u 0)]) ::
  (57, .cells 302 [(u 0), (u 0), (u 0)]) ::
  (56, .cells 302 [(u 0), (u 0), (u 0)]) ::
  (55, .cells 302 [(u 0), (u 0), (u 0)]) ::
  (54, .cells 302 [(u 0), (u 0), (u 0)]) ::
  (53, .cells 302 [(u 0), (u 0), (u 0)]) ::
  (52, .cells 302 [(u 0), (u 0), (u 0)]) ::
  (51, .cells 302 [(u 0), (u 0), (u 0)]) ::
  (50, .cells 302 [(u 0), (u 0), (u 0)]) ::
  (49, .cells 302 [(u 0), (u 0), (u 0)]) ::
  (48, .cells 302 [(u 0), (u 0), (u 0)]) ::
  (47, .cells 302 [(u 0), (u 0), (u 0)]) ::
  (46, .cells 302 [(u 0), (u 0), (u 0)]) ::
  (45, .cells 302 [(u 0), (u 0), (u 0)]) ::
  (44, .cells 302 [(u 0), (u 0), (u 0)]) ::
  (43, .cells 302 [(u 0), (u 0), (u 0)]) ::
  (42, .cells 302 [(u 0), (u 0), (u 0)]) ::
  (41, .cells 302 [(u 0), (u 0), (u 0)]) ::
  (40, .cells 302 [(u 0), (u 0), (u 0)]) ::
  (39, .cells 302 [(u 0), (u 0), (u 0)]) ::
  (38, .cells 302 [(u 0), (u 0), (u 0)]) ::
  (37, .cells 302 [(u 0), (u 0), (u 0)]) :: h
def R3h3 (h : Heap) : Heap :=
  (36, .cells 302 [(u 0), (u 0), (u 0)]) ::
  (35, .cells 302 [(u 0), (u 0), (u 0)]) ::
  (34, .cells 302 [(u 0), (u 0), (u 0)]) ::
  (33, .cells 302 [(u 0), (u 0), (u 0)]) ::
  (32, .cells 302 [(u 0), (u 0), (u 0)]) ::
  (31, .cells 300 [(j 1), .ns, .np, (j 0)]) ::
  (30, .cells 210 [(q 9), (q 10), (q 28), (q 31), (.m 29), (q 32), (q 33), (q 34), (q 35), (q 36), (q 37), (q 38), (q 39), (q 40), (q 41), (q 42), (q 43), (q 44), (q 45), (q 46), (q 47), (q 48), (q 49), (q 50), (q 51), (q 52), (q 53), (q 54), (q 55), (q 56), (q 57), (q 58), (q 59), (q 60), (q 61), (q 62), (q 63), (q 64), (q 65), (q 66), (q 67), (q 68), (q 69), (q 70), (q 71), (q 72), (q 73), (q 74), (q 75), (q 76), (q 77), (q 78), (q 79), (q 80), (q 81), (q 82), (q 83), (q 84), (q 85), (q 86), (q 87), (q 88), (q 89), (q 90), (q 91), (q 92), (q 93), (q 94), (q 95), (u 0), (u 0)]) ::
  (29, mpi .i64 []) ::
  (28, .cells 296 [.ns, (u 0), .ns, (.m 27)]) ::
  (27, mpi .u64 []) ::
  (25, .vec 351 1 [(.m 11), (.m 15), (.m 19), (.m 23)] (.o 26 0)) ::
  (24, .vec 351 1 [(.m 23)] (.c 1)) ::
  (23, mpi .u64 []) ::
  (20, .vec 351 1 [(.m 19)] (.c 1)) ::
  (19, mpi .u64 []) ::
  (16, .vec 351 1 [(.m 15)] (.c 1)) ::
  (15, mpi .u64 []) ::
  (12, .vec 351 1 [(.m 11)] (.c 1)) ::
  (11, mpi .u64 []) ::
  (10, .cells 292 [.ns, (u 0), .ns, (u 0), .ns, (u 0), .ns, (u 0), (.sl true 25 1 0 4 (.o 26 0))]) ::
  (9, .cells 220 (rp_ 4 .ns [(u 0), .ns, (u 0), .ns, (u 0), (.m 7), (.m 8)])) ::
  (8, mpi .u64 []) ::
  (7, mpi .u64 []) ::
  (6, .cells 65 [.ns, .ns, .ns]) ::
  (5, .cells 65 [.ns, .ns, .ns]) ::
  (4, .cells 65 [.ns, .ns, .ns]) ::
  (3, .cells 67 [.ns, .ns, .ns, (j 1), (j 100), (.sl true 1 10 0 1 (.c 1))]) ::
  (2, .vec 3 1 (rp_ 7 (j 0) []) (.c 7)) ::
  (1, .vec 62 10 [(j 1), (j 0), (u 40), (u 0), (j 0), (u 0), .ff, (j 0), .ns, .ns] (.c 1)) ::
  (0, .big .z) :: h
def R3h : Heap := R3h0 (R3h1 (R3h2 (R3h3 [])))

set_option maxRecDepth 100000 in
theorem go3_sure : (runP Tryz.prog wt1 37 Tryz.f37 (tupL S3v) S3h S3n tellK).sure (isRes R3v R3h R3n) = true := by kernel_rfl
theorem go3_ok (𝔅 : BigRep) : SpecEnters Tryz.prog 𝔅 37 (atSpec (tupL S3v) S3h S3n R3v R3h R3n) := at_ok (runP_ok fit (wt1_ok 𝔅) Tryz.func37 (by kernel_rfl)) go3_sure
end SX
end Go.Proofs.YtcemhpdhcmlhlaaGreatDoor

/-
  State 4.
-/
namespace Go.Proofs.YtcemhpdhcmlhlaaGreatDoor
open Go.RowKit Go.Deep
namespace SX
/- S4 p: 157 objects of 157 -/
def S4v : SV := (.tup [(q 119), (j 0)])
def S4n : Nat := 628
def S4h0 (h : Heap) : Heap :=
  (627, mpi .i64 [(1, (.t [108, 111, 111, 107])), (2, (.t [114, 101, 112, 97, 121])), (3, (.t [99, 108, 101, 97, 110])), (4, (.t [116, 97, 107, 101])), (5, (.t [107, 101, 101, 112])), (6, (.t [108, 111, 99, 107])), (7, (.t [103, 114, 111, 119])), (8, (.t [100, 111])), (9, (.t [115, 112, 101, 99, 105, 97, 108])), (10, (.t [110, 101, 120, 116])), (11, (.t [111, 110, 101])), (12, (.t [115, 116, 111, 112])), (13, (.t [119, 97, 105, 116])), (14, (.t [100, 114, 97, 105, 110])), (15, (.t [99, 108, 101, 97, 110])), (16, (.t [102, 108, 105, 112]))]) ::
  (626, .it 98) ::
  (624, .vec 3 1 [(j 0)] (.o 625 0)) ::
  (623, .vec 3 1 [(j 0)] (.c 1)) ::
  (622, .cells 24 [(j 0), (j 0), (.t [103, 114, 111, 119]), (j 0)]) ::
  (620, .vec 24 4 [(j 0), (j 0), (.t [108, 111, 111, 107]), (j 0), (j 0), (j 0), (.t [114, 101, 112, 97, 121]), (j 0), (j 0), (j 0), (.t [116, 97, 107, 101]), (j 0), (j 0), (j 0), (.t [108, 111, 99, 107]), (j 0)] (.o 621 0)) ::
  (619, .vec 24 4 [(j 0), (j 0), (.t [108, 111, 99, 107]), (j 0)] (.c 1)) ::
  (610, mpi .i64 [(1, (.t [108, 111, 111, 107])), (2, (.t [114, 101, 112, 97, 121])), (3, (.t [99, 108, 101, 97, 110])), (4, (.t [116, 97, 107, 101])), (5, (.t [107, 101, 101, 112])), (6, (.t [108, 111, 99, 107])), (7, (.t [103, 114, 111, 119])), (8, (.t [100, 111])), (9, (.t [115, 112, 101, 99, 105, 97, 108])), (10, (.t [110, 101, 120, 116])), (11, (.t [111, 110, 101])), (12, (.t [115, 116, 111, 112])), (13, (.t [119, 97, 105, 116])), (14, (.t [100, 114, 97, 105, 110])), (15, (.t [99, 108, 101, 97, 110])), (16, (.t [102, 108, 105, 112]))]) ::
  (609, .it 98) ::
  (607, .vec 3 1 [(j 0)] (.o 608 0)) ::
  (606, .vec 3 1 [(j 0)] (.c 1)) ::
  (605, .cells 24 [(j 0), (j 0), (.t [108, 111, 99, 107]), (j 0)]) ::
  (603, .gone) ::
  (602, .vec 24 4 [(j 0), (j 0), (.t [116, 97, 107, 101]), (j 0)] (.c 1)) ::
  (592, mpi .i64 [(1, (.t [108, 111, 111, 107])), (2, (.t [114, 101, 112, 97, 121])), (3, (.t [99, 108, 101, 97, 110])), (4, (.t [116, 97, 107, 101])), (5, (.t [107, 101, 101, 112])), (6, (.t [108, 111, 99, 107])), (7, (.t [103, 114, 111, 119])), (8, (.t [100, 111])), (9, (.t [115, 112, 101, 99, 105, 97, 108])), (10, (.t [110, 101, 120, 116])), (11, (.t [111, 110, 101])), (12, (.t [115, 116, 111, 112])), (13, (.t [119, 97, 105, 116])), (14, (.t [100, 114, 97, 105, 110])), (15, (.t [99, 108, 101, 97, 110])), (16, (.t [102, 108, 105, 112]))]) ::
  (591, .it 98) ::
  (589, .vec 3 1 [(j 0)] (.o 590 0)) ::
  (588, .vec 3 1 [(j 0)] (.c 1)) ::
  (587, .cells 24 [(j 0), (j 0), (.t [116, 97, 107, 101]), (j 0)]) ::
  (584, .vec 24 4 [(j 0), (j 0), (.t [114, 101, 112, 97, 121]), (j 0)] (.c 1)) ::
  (576, mpi .i64 [(1, (.t [108, 111, 111, 107])), (2, (.t [114, 101, 112, 97, 121])), (3, (.t [99, 108, 101, 97, 110])), (4, (.t [116, 97, 107, 101])), (5, (.t [107, 101, 101, 112])), (6, (.t [108, 111, 99, 107])), (7, (.t [103, 114, 111, 119])), (8, (.t [100, 111])), (9, (.t [115, 112, 101, 99, 105, 97, 108])), (10, (.t [110, 101, 120, 116])), (11, (.t [111, 110, 101])), (12, (.t [115, 116, 111, 112])), (13, (.t [119, 97, 105, 116])), (14, (.t [100, 114, 97, 105, 110])), (15, (.t [99, 108, 101, 97, 110])), (16, (.t [102, 108, 105, 112]))]) ::
  (575, .it 98) ::
  (573, .vec 3 1 [(j 0)] (.o 574 0)) ::
  (572, .vec 3 1 [(j 0)] (.c 1)) ::
  (571, .cells 24 [(j 0), (j 0), (.t [114, 101, 112, 97, 121]), (j 0)]) ::
  (568, .vec 24 4 [(j 0), (j 0), (.t [108, 111, 111, 107]), (j 0)] (.c 1)) ::
  (146, mpi .i64 [(1, (.t [108, 111, 111, 107])), (2, (.t [114, 101, 112, 97, 121])), (3, (.t [99, 108, 101, 97, 110])), (4, (.t [116, 97, 107, 101])), (5, (.t [107, 101, 101, 112])), (6, (.t [108, 111, 99, 107])), (7, (.t [103, 114, 111, 119])), (8, (.t [100, 111])), (9, (.t [115, 112, 101, 99, 105, 97, 108])), (10, (.t [110, 101, 120, 116])), (11, (.t [111, 110, 101])), (12, (.t [115, 116, 111, 112])), (13, (.t [119, 97, 105, 116])), (14, (.t [100, 114, 97, 105, 110])), (15, (.t [99, 108, 101, 97, 110])), (16, (.t [102, 108, 105, 112]))]) ::
  (145, .it 98) ::
  (143, .vec 3 1 [(j 0)] (.o 144 0)) ::
  (142, .vec 3 1 [(j 0)] (.c 1)) ::
  (141, .cells 24 [(j 0), (j 0), (.t [108, 111, 111, 107]), (j 0)]) ::
  (139, .vec 3 1 [(j 0)] (.o 140 0)) ::
  (138, .vec 3 1 [(j 0)] (.c 1)) ::
  (136, .vec 125 1 [(q 134)] (.o 137 0)) ::
  (135, .vec 125 1 [(q 134)] (.c 1)) ::
  (134, .cells 129 [(j 1), (j 0), (u 40), (u 0), (j 0), (u 0), .ff, (j 0), .ns, .ns, (u 0), (u 0), (j 0), .ff]) ::
  (133, .cells 62 [(j 1), (j 0), (u 40), (u 0), (j 0), (u 0), .ff, (j 0), .ns, .ns]) ::
  (132, .cells 62 [(j 1), (j 0), (u 40), (u 0), (j 0), (u 0), .ff, (j 0), .ns, .ns]) ::
  (130, .vec 118 1 [(q 120), (q 124), (q 128)] (.o 131 0)) ::
  (129, .vec 118 1 [(q 128)] (.c 1)) :: h
def S4h1 (h : Heap) : Heap :=
  (128, .cells 122 ((j 2) :: (rp_ 4 (j 0) [.ff, .ff, (u 0), (u 0)]))) ::
  (125, .vec 118 1 [(q 124)] (.c 1)) ::
  (124, .cells 122 ((j 1) :: (rp_ 4 (j 0) [.ff, .ff, (u 0), (u 0)]))) ::
  (121, .vec 118 1 [(q 120)] (.c 1)) ::
  (120, .cells 122 [(j 0), (j 0), (j 7), (j 0), (j 5), .tt, .ff, (u 1), (u 0)]) ::
  (119, .cells 117 [(q 103), (q 116), (.sl true 130 1 0 3 (.o 131 0)), (.sl true 117 1 0 1 (.c 1)), (.sl true 136 1 0 1 (.o 137 0)), .ns, (j 0), (.l .i64 (-1)), .ff, .ff, (.m 118)]) ::
  (118, mpi .i64 [(1, (.fn 85 [])), (2, (.fn 86 [])), (3, (.fn 87 [])), (4, (.fn 88 [])), (5, (.fn 89 [])), (6, (.fn 90 [])), (7, (.fn 91 [])), (8, (.fn 92 [])), (9, (.fn 93 [])), (10, (.fn 94 [])), (11, (.fn 95 [])), (12, (.fn 96 [])), (13, (.fn 97 [])), (14, (.fn 98 [])), (15, (.fn 99 [])), (16, (.fn 100 []))]) ::
  (117, .vec 68 1 [(.sl true 139 1 1 0 (.o 140 1))] (.c 1)) ::
  (116, .cells 168 [(q 30), (u 4607632778762754458)]) ::
  (114, .vec 165 1 [(q 112)] (.o 115 0)) ::
  (113, .vec 165 1 [(q 112)] (.c 1)) ::
  (112, .cells 247 ((q 111) :: (rp_ 137 (j 0) [(u 0), (j 0)]))) ::
  (111, .cells 242 [(q 104)]) ::
  (110, mpi .i64 []) ::
  (109, mpi .i64 []) ::
  (108, mpi .i64 []) ::
  (107, mpi .i64 []) ::
  (106, .cells 240 ((q 30) :: (rp_ 256 .ns [(.m 107), (.m 108), (.m 109), (.m 110), (.m 105)]))) ::
  (105, mpi .u64 []) ::
  (104, .cells 234 [(q 30), (q 99), (q 100), .ns, (u 0), (u 0), (u 8192), (u 0)]) ::
  (103, .cells 109 [(q 30), (q 99), (q 100), (q 104), (.sl true 114 1 0 1 (.o 115 0)), (q 106), (.m 101), (q 102), (j 100), .ff, (u 0), (u 0)]) ::
  (102, .cells 231 [.ns]) ::
  (101, mpi .i64 []) ::
  (100, .cells 228 [.np, (j 0)]) ::
  (99, .cells 225 [(.m 96), (.m 97), (.m 98)]) ::
  (98, .mp .non []) ::
  (97, mpi .u64 []) ::
  (96, mpi .i64 []) ::
  (95, .cells 302 [(u 0), (u 0), (u 0)]) ::
  (94, .cells 302 [(u 0), (u 0), (u 0)]) ::
  (93, .cells 302 [(u 0), (u 0), (u 0)]) ::
  (92, .cells 302 [(u 0), (u 0), (u 0)]) ::
  (91, .cells 302 [(u 0), (u 0), (u 0)]) ::
  (90, .cells 302 [(u 0), (u 0), (u 0)]) ::
  (89, .cells 302 [(u 0), (u 0), (u 0)]) ::
  (88, .cells 302 [(u 0), (u 0), (u 0)]) ::
  (87, .cells 302 [(u 0), (u 0), (u 0)]) ::
  (86, .cells 302 [(u 0), (u 0), (u 0)]) ::
  (85, .cells 302 [(u 0), (u 0), (u 0)]) ::
  (84, .cells 302 [(u 0), (u 0), (u 0)]) :: h
def S4h2 (h : Heap) : Heap :=
  (83, .cells 302 [(u 0), (u 0), (u 0)]) ::
  (82, .cells 302 [(u 0), (u 0), (u 0)]) ::
  (81, .cells 302 [(u 0), (u 0), (u 0)]) ::
  (80, .cells 302 [(u 0), (u 0), (u 0)]) ::
  (79, .cells 302 [(u 0), (u 0), (u 0)]) ::
  (78, .cells 302 [(u 0), (u 0), (u 0)]) ::
  (77, .cells 302 [(u 0), (u 0), (u 0)]) ::
  (76, .cells 302 [(u 0), (u 0), (u 0)]) ::
  (75, .cells 302 [(u 0), (u 0), (u 0)]) ::
  (74, .cells 302 [(u 0), (u 0), (u 0)]) ::
  (73, .cells 302 [(u 0), (u 0), (u 0)]) ::
  (72, .cells 302 [(u 0), (u 0), (u 0)]) ::
  (71, .cells 302 [(u 0), (u 0), (u 0)]) ::
  (70, .cells 302 [(u 0), (u 0), (u 0)]) ::
  (69, .cells 302 [(u 0), (u 0), (u 0)]) ::
  (68, .cells 302 [(u 0), (u 0), (u 0)]) ::
  (67, .cells 302 [(u 0), (u 0), (u 0)]) ::
  (66, .cells 302 [(u 0), (u 0), (u 0)]) ::
  (65, .cells 302 [(u 0), (u 0), (u 0)]) ::
  (64, .cells 302 [(u 0), (u 0), (u 0)]) ::
  (63, .cells 302 [(u 0), (u 0), (u 0)]) ::
  (62, .cells 302 [(u 0), (u 0), (u 0)]) ::
  (61, .cells 302 [(u 0), (u 0), (u 0)]) ::
  (60, .cells 302 [(u 0), (u 0), (u 0)]) ::
  (59, .cells 302 [(u 0), (u 0), (u 0)]) ::
  (58, .cells 302 [(u 0), (u 0), (u 0)]) ::
  (57, .cells 302 [(u 0), (u 0), (u 0)]) ::
  (56, .cells 302 [(u 0), (u 0), (u 0)]) ::
  (55, .cells 302 [(u 0), (u 0), (u 0)]) ::
  (54, .cells 302 [(u 0), (u 0), (u 0)]) ::
  (53, .cells 302 [(u 0), (u 0), (u 0)]) ::
  (52, .cells 302 [(u 0), (u 0), (u 0)]) ::
  (51, .cells 302 [(u 0), (u 0), (u 0)]) ::
  (50, .cells 302 [(u 0), (u 0), (u 0)]) ::
  (49, .cells 302 [(u 0), (u 0), (u 0)]) ::
  (48, .cells 302 [(u 0), (u 0), (u 0)]) ::
  (47, .cells 302 [(u 0), (u 0), (u 0)]) ::
  (46, .cells 302 [(u 0), (u 0), (u 0)]) ::
  (45, .cells 302 [(u 0), (u 0), (u 0)]) ::
  (44, .cells 302 [(u 0), (u 0), (u 0)]) :: h
def S4h3 (h : Heap) : Heap :=
  (43, .cells 302 [(u 0), (u 0), (u 0)]) ::
  (42, .cells 302 [(u 0), (u 0), (u 0)]) ::
  (41, .cells 302 [(u 0), (u 0), (u 0)]) ::
  (40, .cells 302 [(u 0), (u 0), (u 0)]) ::
  (39, .cells 302 [(u 0), (u 0), (u 0)]) ::
  (38, .cells 302 [(u 0), (u 0), (u 0)]) ::
  (37, .cells 302 [(u 0), (u 0), (u 0)]) ::
  (36, .cells 302 [(u 0), (u 0), (u 0)]) ::
  (35, .cells 302 [(u 0), (u 0), (u 0)]) ::
  (34, .cells 302 [(u 0), (u 0), (u 0)]) ::
  (33, .cells 302 [(u 0), (u 0), (u 0)]) ::
  (32, .cells 302 [(u 0), (u 0), (u 0)]) ::
  (31, .cells 300 [(j 1), .ns, .np, (j 0)]) ::
  (30, .cells 210 [(q 9), (q 10), (q 28), (q 31), (.m 29), (q 32), (q 33), (q 34), (q 35), (q 36), (q 37), (q 38), (q 39), (q 40), (q 41), (q 42), (q 43), (q 44), (q 45), (q 46), (q 47), (q 48), (q 49), (q 50), (q 51), (q 52), (q 53), (q 54), (q 55), (q 56), (q 57), (q 58), (q 59), (q 60), (q 61), (q 62), (q 63), (q 64), (q 65), (q 66), (q 67), (q 68), (q 69), (q 70), (q 71), (q 72), (q 73), (q 74), (q 75), (q 76), (q 77), (q 78), (q 79), (q 80), (q 81), (q 82), (q 83), (q 84), (q 85), (q 86), (q 87), (q 88), (q 89), (q 90), (q 91), (q 92), (q 93), (q 94), (q 95), (u 0), (u 0)]) ::
  (29, mpi .i64 []) ::
  (28, .cells 296 [.ns, (u 0), .ns, (.m 27)]) ::
  (27, mpi .u64 []) ::
  (25, .vec 351 1 [(.m 11), (.m 15), (.m 19), (.m 23)] (.o 26 0)) ::
  (24, .vec 351 1 [(.m 23)] (.c 1)) ::
  (23, mpi .u64 []) ::
  (20, .vec 351 1 [(.m 19)] (.c 1)) ::
  (19, mpi .u64 []) ::
  (16, .vec 351 1 [(.m 15)] (.c 1)) ::
  (15, mpi .u64 []) ::
  (12, .vec 351 1 [(.m 11)] (.c 1)) ::
  (11, mpi .u64 []) ::
  (10, .cells 292 [.ns, (u 0), .ns, (u 0), .ns, (u 0), .ns, (u 0), (.sl true 25 1 0 4 (.o 26 0))]) ::
  (9, .cells 220 (rp_ 4 .ns [(u 0), .ns, (u 0), .ns, (u 0), (.m 7), (.m 8)])) ::
  (8, mpi .u64 []) ::
  (7, mpi .u64 []) ::
  (6, .cells 65 [.ns, .ns, .ns]) ::
  (5, .cells 65 [.ns, .ns, .ns]) ::
  (4, .cells 65 [.ns, .ns, .ns]) ::
  (3, .cells 67 [.ns, .ns, .ns, (j 1), (j 100), (.sl true 1 10 0 1 (.c 1))]) ::
  (2, .vec 3 1 (rp_ 7 (j 0) []) (.c 7)) ::
  (1, .vec 62 10 [(j 1), (j 0), (u 40), (u 0), (j 0), (u 0), .ff, (j 0), .ns, .ns] (.c 1)) ::
  (0, .big .z) :: h
def S4h : Heap := S4h0 (S4h1 (S4h2 (S4h3 [])))
end SX
end Go.Proofs.YtcemhpdhcmlhlaaGreatDoor

/-
  The step from state 4.
-/
namespace Go.Proofs.YtcemhpdhcmlhlaaGreatDoor
open Go.RowKit Go.Deep
namespace SX
/- R4 r: 173 objects of 319 -/
def R4v : SV := (.tup [(j 0), (j 0)])
def R4n : Nat := 1212
def R4h0 (h : Heap) : Heap :=
  (1211, .cells 448 ((j 1) :: (rp_ 511 (j 0) []))) ::
  (1202, .vec 298 1 [(q 1200)] (.o 1203 0)) ::
  (1200, .cells 431 [(j 1), .tt, .np]) ::
  (1199, .cells 328 [(u 4194304), (j 1), (j 1), (j 5), .tt, (j 48), (j 170), (j 0), .ff, .ff, (.l .u32 89478486), .ns, .ns, (j 0)]) ::
  (995, .vec 409 2 [(u 512), (u 513)] (.o 996 0)) ::
  (984, .vec 409 2 [] (.c 0)) ::
  (971, .vec 351 1 [(.m 957), (.m 961), (.m 965), (.m 969)] (.o 972 0)) ::
  (969, mpi .u64 []) ::
  (965, mpi .u64 []) ::
  (961, mpi .u64 []) ::
  (957, mpi .u64 []) ::
  (956, .vec 409 2 [] (.c 0)) ::
  (950, .vec 409 2 [(u 513), (u 1024)] (.o 951 0)) ::
  (939, .vec 409 2 [(u 513), (u 1024)] (.o 940 0)) ::
  (921, .vec 409 2 [(u 1), (u 2)] (.o 922 0)) ::
  (869, .vec 409 2 [(u 512), (u 1024)] (.o 870 0)) ::
  (855, .vec 409 2 [(u 512), (u 1024)] (.o 856 0)) ::
  (627, mpi .i64 [(1, (.t [108, 111, 111, 107])), (2, (.t [114, 101, 112, 97, 121])), (3, (.t [99, 108, 101, 97, 110])), (4, (.t [116, 97, 107, 101])), (5, (.t [107, 101, 101, 112])), (6, (.t [108, 111, 99, 107])), (7, (.t [103, 114, 111, 119])), (8, (.t [100, 111])), (9, (.t [115, 112, 101, 99, 105, 97, 108])), (10, (.t [110, 101, 120, 116])), (11, (.t [111, 110, 101])), (12, (.t [115, 116, 111, 112])), (13, (.t [119, 97, 105, 116])), (14, (.t [100, 114, 97, 105, 110])), (15, (.t [99, 108, 101, 97, 110])), (16, (.t [102, 108, 105, 112]))]) ::
  (626, .it 98) ::
  (624, .vec 3 1 [(j 0)] (.o 625 0)) ::
  (623, .vec 3 1 [(j 0)] (.c 1)) ::
  (622, .cells 24 [(j 0), (j 0), (.t [103, 114, 111, 119]), (j 0)]) ::
  (620, .vec 24 4 [(j 0), (j 0), (.t [108, 111, 111, 107]), (j 0), (j 0), (j 0), (.t [114, 101, 112, 97, 121]), (j 0), (j 0), (j 0), (.t [116, 97, 107, 101]), (j 0), (j 0), (j 0), (.t [108, 111, 99, 107]), (j 0)] (.o 621 0)) ::
  (619, .vec 24 4 [(j 0), (j 0), (.t [108, 111, 99, 107]), (j 0)] (.c 1)) ::
  (610, mpi .i64 [(1, (.t [108, 111, 111, 107])), (2, (.t [114, 101, 112, 97, 121])), (3, (.t [99, 108, 101, 97, 110])), (4, (.t [116, 97, 107, 101])), (5, (.t [107, 101, 101, 112])), (6, (.t [108, 111, 99, 107])), (7, (.t [103, 114, 111, 119])), (8, (.t [100, 111])), (9, (.t [115, 112, 101, 99, 105, 97, 108])), (10, (.t [110, 101, 120, 116])), (11, (.t [111, 110, 101])), (12, (.t [115, 116, 111, 112])), (13, (.t [119, 97, 105, 116])), (14, (.t [100, 114, 97, 105, 110])), (15, (.t [99, 108, 101, 97, 110])), (16, (.t [102, 108, 105, 112]))]) ::
  (609, .it 98) ::
  (607, .vec 3 1 [(j 0)] (.o 608 0)) ::
  (606, .vec 3 1 [(j 0)] (.c 1)) ::
  (605, .cells 24 [(j 0), (j 0), (.t [108, 111, 99, 107]), (j 0)]) ::
  (602, .vec 24 4 [(j 0), (j 0), (.t [116, 97, 107, 101]), (j 0)] (.c 1)) ::
  (592, mpi .i64 [(1, (.t [108, 111, 111, 107])), (2, (.t [114, 101, 112, 97, 121])), (3, (.t [99, 108, 101, 97, 110])), (4, (.t [116, 97, 107, 101])), (5, (.t [107, 101, 101, 112])), (6, (.t [108, 111, 99, 107])), (7, (.t [103, 114, 111, 119])), (8, (.t [100, 111])), (9, (.t [115, 112, 101, 99, 105, 97, 108])), (10, (.t [110, 101, 120, 116])), (11, (.t [111, 110, 101])), (12, (.t [115, 116, 111, 112])), (13, (.t [119, 97, 105, 116])), (14, (.t [100, 114, 97, 105, 110])), (15, (.t [99, 108, 101, 97, 110])), (16, (.t [102, 108, 105, 112]))]) ::
  (591, .it 98) ::
  (589, .vec 3 1 [(j 0)] (.o 590 0)) ::
  (588, .vec 3 1 [(j 0)] (.c 1)) ::
  (587, .cells 24 [(j 0), (j 0), (.t [116, 97, 107, 101]), (j 0)]) ::
  (584, .vec 24 4 [(j 0), (j 0), (.t [114, 101, 112, 97, 121]), (j 0)] (.c 1)) ::
  (576, mpi .i64 [(1, (.t [108, 111, 111, 107])), (2, (.t [114, 101, 112, 97, 121])), (3, (.t [99, 108, 101, 97, 110])), (4, (.t [116, 97, 107, 101])), (5, (.t [107, 101, 101, 112])), (6, (.t [108, 111, 99, 107])), (7, (.t [103, 114, 111, 119])), (8, (.t [100, 111])), (9, (.t [115, 112, 101, 99, 105, 97, 108])), (10, (.t [110, 101, 120, 116])), (11, (.t [111, 110, 101])), (12, (.t [115, 116, 111, 112])), (13, (.t [119, 97, 105, 116])), (14, (.t [100, 114, 97, 105, 110])), (15, (.t [99, 108, 101, 97, 110])), (16, (.t [102, 108, 105, 112]))]) ::
  (575, .it 98) ::
  (573, .vec 3 1 [(j 0)] (.o 574 0)) ::
  (572, .vec 3 1 [(j 0)] (.c 1)) :: h
def R4h1 (h : Heap) : Heap :=
  (571, .cells 24 [(j 0), (j 0), (.t [114, 101, 112, 97, 121]), (j 0)]) ::
  (568, .vec 24 4 [(j 0), (j 0), (.t [108, 111, 111, 107]), (j 0)] (.c 1)) ::
  (146, mpi .i64 [(1, (.t [108, 111, 111, 107])), (2, (.t [114, 101, 112, 97, 121])), (3, (.t [99, 108, 101, 97, 110])), (4, (.t [116, 97, 107, 101])), (5, (.t [107, 101, 101, 112])), (6, (.t [108, 111, 99, 107])), (7, (.t [103, 114, 111, 119])), (8, (.t [100, 111])), (9, (.t [115, 112, 101, 99, 105, 97, 108])), (10, (.t [110, 101, 120, 116])), (11, (.t [111, 110, 101])), (12, (.t [115, 116, 111, 112])), (13, (.t [119, 97, 105, 116])), (14, (.t [100, 114, 97, 105, 110])), (15, (.t [99, 108, 101, 97, 110])), (16, (.t [102, 108, 105, 112]))]) ::
  (145, .it 98) ::
  (143, .vec 3 1 [(j 0)] (.o 144 0)) ::
  (142, .vec 3 1 [(j 0)] (.c 1)) ::
  (141, .cells 24 [(j 0), (j 0), (.t [108, 111, 111, 107]), (j 0)]) ::
  (139, .vec 3 1 [(j 0)] (.o 140 0)) ::
  (138, .vec 3 1 [(j 0)] (.c 1)) ::
  (136, .vec 125 1 [(q 134)] (.o 137 0)) ::
  (135, .vec 125 1 [(q 134)] (.c 1)) ::
  (134, .cells 129 [(j 1), (j 0), (u 40), (u 0), (j 0), (u 0), .ff, (j 0), .ns, .ns, (u 0), (u 0), (j 0), .ff]) ::
  (133, .cells 62 [(j 1), (j 0), (u 40), (u 0), (j 0), (u 0), .ff, (j 0), .ns, .ns]) ::
  (132, .cells 62 [(j 1), (j 0), (u 40), (u 0), (j 0), (u 0), .ff, (j 0), .ns, .ns]) ::
  (130, .vec 118 1 [(q 120), (q 124), (q 128)] (.o 131 0)) ::
  (129, .vec 118 1 [(q 128)] (.c 1)) ::
  (128, .cells 122 ((j 2) :: (rp_ 4 (j 0) [.ff, .ff, (u 0), (u 0)]))) ::
  (125, .vec 118 1 [(q 124)] (.c 1)) ::
  (124, .cells 122 ((j 1) :: (rp_ 4 (j 0) [.ff, .ff, (u 0), (u 0)]))) ::
  (121, .vec 118 1 [(q 120)] (.c 1)) ::
  (120, .cells 122 [(j 0), (j 0), (j 1), (j 0), (j 5), .tt, .ff, (u 1), (u 0)]) ::
  (119, .cells 117 [(q 103), (q 116), (.sl true 130 1 0 3 (.o 131 0)), (.sl true 117 1 0 1 (.c 1)), (.sl true 136 1 0 1 (.o 137 0)), .ns, (.l .i64 (-1)), (.l .i64 (-1)), .ff, .ff, (.m 118)]) ::
  (118, mpi .i64 [(1, (.fn 85 [])), (2, (.fn 86 [])), (3, (.fn 87 [])), (4, (.fn 88 [])), (5, (.fn 89 [])), (6, (.fn 90 [])), (7, (.fn 91 [])), (8, (.fn 92 [])), (9, (.fn 93 [])), (10, (.fn 94 [])), (11, (.fn 95 [])), (12, (.fn 96 [])), (13, (.fn 97 [])), (14, (.fn 98 [])), (15, (.fn 99 [])), (16, (.fn 100 []))]) ::
  (117, .vec 68 1 [(.sl true 139 1 1 0 (.o 140 1))] (.c 1)) ::
  (116, .cells 168 [(q 30), (u 4607632778762754458)]) ::
  (114, .vec 165 1 [(q 112)] (.o 115 0)) ::
  (113, .vec 165 1 [(q 112)] (.c 1)) ::
  (112, .cells 247 ((q 111) :: (rp_ 12 (j 0) ((j 1) :: (rp_ 124 (j 0) [(u 0), (j 0)]))))) ::
  (111, .cells 242 [(q 104)]) ::
  (110, mpi .i64 []) ::
  (109, mpi .i64 []) ::
  (108, mpi .i64 []) ::
  (107, mpi .i64 []) ::
  (106, .cells 240 ((q 30) :: (rp_ 256 .ns [(.m 107), (.m 108), (.m 109), (.m 110), (.m 105)]))) ::
  (105, mpi .u64 []) ::
  (104, .cells 234 [(q 30), (q 99), (q 100), .ns, (u 0), (u 0), (u 8192), (u 0)]) ::
  (103, .cells 109 [(q 30), (q 99), (q 100), (q 104), (.sl true 114 1 0 1 (.o 115 0)), (q 106), (.m 101), (q 102), (j 100), .ff, (u 0), (u 0)]) ::
  (102, .cells 231 [.ns]) ::
  (101, mpi .i64 []) ::
  (100, .cells 228 [.np, (j 0)]) :: h
def R4h2 (h : Heap) : Heap :=
  (99, .cells 225 [(.m 96), (.m 97), (.m 98)]) ::
  (98, .mp .non []) ::
  (97, mpi .u64 []) ::
  (96, mpi .i64 []) ::
  (95, .cells 302 [(u 0), (u 0), (u 0)]) ::
  (94, .cells 302 [(u 0), (u 0), (u 0)]) ::
  (93, .cells 302 [(u 0), (u 0), (u 0)]) ::
  (92, .cells 302 [(u 0), (u 0), (u 0)]) ::
  (91, .cells 302 [(u 0), (u 0), (u 0)]) ::
  (90, .cells 302 [(u 0), (u 0), (u 0)]) ::
  (89, .cells 302 [(u 0), (u 0), (u 0)]) ::
  (88, .cells 302 [(u 0), (u 0), (u 0)]) ::
  (87, .cells 302 [(u 0), (u 0), (u 0)]) ::
  (86, .cells 302 [(u 0), (u 0), (u 0)]) ::
  (85, .cells 302 [(u 0), (u 0), (u 0)]) ::
  (84, .cells 302 [(u 0), (u 0), (u 0)]) ::
  (83, .cells 302 [(u 0), (u 0), (u 0)]) ::
  (82, .cells 302 [(u 0), (u 0), (u 0)]) ::
  (81, .cells 302 [(u 0), (u 0), (u 0)]) ::
  (80, .cells 302 [(u 0), (u 0), (u 0)]) ::
  (79, .cells 302 [(u 0), (u 0), (u 0)]) ::
  (78, .cells 302 [(u 0), (u 0), (u 0)]) ::
  (77, .cells 302 [(u 0), (u 0), (u 0)]) ::
  (76, .cells 302 [(u 0), (u 0), (u 0)]) ::
  (75, .cells 302 [(u 0), (u 0), (u 0)]) ::
  (74, .cells 302 [(u 0), (u 0), (u 0)]) ::
  (73, .cells 302 [(u 0), (u 0), (u 0)]) ::
  (72, .cells 302 [(u 0), (u 0), (u 0)]) ::
  (71, .cells 302 [(u 0), (u 0), (u 0)]) ::
  (70, .cells 302 [(u 0), (u 0), (u 0)]) ::
  (69, .cells 302 [(u 0), (u 0), (u 0)]) ::
  (68, .cells 302 [(u 0), (u 0), (u 0)]) ::
  (67, .cells 302 [(u 0), (u 0), (u 0)]) ::
  (66, .cells 302 [(u 0), (u 0), (u 0)]) ::
  (65, .cells 302 [(u 0), (u 0), (u 0)]) ::
  (64, .cells 302 [(u 0), (u 0), (u 0)]) ::
  (63, .cells 302 [(u 0), (u 0), (u 0)]) ::
  (62, .cells 302 [(u 0), (u 0), (u 0)]) ::
  (61, .cells 302 [(u 0), (u 0), (u 0)]) ::
  (60, .cells 302 [(u 0), (u 0), (u 0)]) :: h
def R4h3 (h : Heap) : Heap :=
  (59, .cells 302 [(u 0), (u 0), (u 0)]) ::
  (58, .cells 302 [(u 0), (u 0), (u 0)]) ::
  (57, .cells 302 [(u 0), (u 0), (u 0)]) ::
  (56, .cells 302 [(u 0), (u 0), (u 0)]) ::
  (55, .cells 302 [(u 0), (u 0), (u 0)]) ::
  (54, .cells 302 [(u 0), (u 0), (u 0)]) ::
  (53, .cells 302 [(u 0), (u 0), (u 0)]) ::
  (52, .cells 302 [(u 0), (u 0), (u 0)]) ::
  (51, .cells 302 [(u 0), (u 0), (u 0)]) ::
  (50, .cells 302 [(u 0), (u 0), (u 0)]) ::
  (49, .cells 302 [(u 0), (u 0), (u 0)]) ::
  (48, .cells 302 [(u 0), (u 0), (u 0)]) ::
  (47, .cells 302 [(u 0), (u 0), (u 0)]) ::
  (46, .cells 302 [(u 0), (u 0), (u 0)]) ::
  (45, .cells 302 [(u 0), (u 0), (u 0)]) ::
  (44, .cells 302 [(u 0), (u 0), (u 0)]) ::
  (43, .cells 302 [(u 0), (u 0), (u 0)]) ::
  (42, .cells 302 [(u 0), (u 0), (u 0)]) ::
  (41, .cells 302 [(u 0), (u 0), (u 0)]) ::
  (40, .cells 302 [(u 0), (u 0), (u 0)]) ::
  (39, .cells 302 [(u 0), (u 0), (u 0)]) ::
  (38, .cells 302 [(u 0), (u 0), (u 0)]) ::
  (37, .cells 302 [(u 0), (u 0), (u 0)]) ::
  (36, .cells 302 [(u 0), (u 0), (u 0)]) ::
  (35, .cells 302 [(u 0), (u 0), (u 0)]) ::
  (34, .cells 302 [(u 0), (u 0), (u 0)]) ::
  (33, .cells 302 [(u 0), (u 0), (u 0)]) ::
  (32, .cells 302 [(u 0), (u 0), (u 0)]) ::
  (31, .cells 300 [(j 1), (.sl true 1202 1 0 1 (.o 1203 0)), .np, (j 1)]) ::
  (30, .cells 210 [(q 9), (q 10), (q 28), (q 31), (.m 29), (q 32), (q 33), (q 34), (q 35), (q 36), (q 37), (q 38), (q 39), (q 40), (q 41), (q 42), (q 43), (q 44), (q 45), (q 46), (q 47), (q 48), (q 49), (q 50), (q 51), (q 52), (q 53), (q 54), (q 55), (q 56), (q 57), (q 58), (q 59), (q 60), (q 61), (q 62), (q 63), (q 64), (q 65), (q 66), (q 67), (q 68), (q 69), (q 70), (q 71), (q 72), (q 73), (q 74), (q 75), (q 76), (q 77), (q 78), (q 79), (q 80), (q 81), (q 82), (q 83), (q 84), (q 85), (q 86), (q 87), (q 88), (q 89), (q 90), (q 91), (q 92), (q 93), (q 94), (q 95), (u 1024), (u 1)]) ::
  (29, mpi .i64 [(1, (q 1199))]) ::
  (28, .cells 296 [(.sl true 921 2 0 1 (.o 922 0)), (u 1), .ns, (.m 27)]) ::
  (27, mpi .u64 [(1, (q 1211))]) ::
  (25, .vec 351 1 [(.m 11), (.m 15), (.m 19), (.m 23)] (.o 26 0)) ::
  (24, .vec 351 1 [(.m 23)] (.c 1)) ::
  (23, mpi .u64 []) ::
  (20, .vec 351 1 [(.m 19)] (.c 1)) ::
  (19, mpi .u64 []) ::
  (16, .vec 351 1 [(.m 15)] (.c 1)) ::
  (15, mpi .u64 []) :: h
def R4h4 (h : Heap) : Heap :=
  (12, .vec 351 1 [(.m 11)] (.c 1)) ::
  (11, mpi .u64 []) ::
  (10, .cells 292 [(.sl true 869 2 0 1 (.o 870 0)), (u 512), (.sl true 939 2 0 1 (.o 940 0)), (u 511), (.sl true 950 2 0 1 (.o 951 0)), (u 511), (.sl true 956 2 0 0 (.zr)), (u 0), (.sl true 971 1 0 4 (.o 972 0))]) ::
  (9, .cells 220 [.ns, .ns, .ns, (.sl true 855 2 0 1 (.o 856 0)), (u 512), (.sl true 995 2 0 1 (.o 996 0)), (u 1), (.sl true 984 2 0 0 (.zr)), (u 0), (.m 7), (.m 8)]) ::
  (8, mpi .u64 []) ::
  (7, mpi .u64 []) ::
  (6, .cells 65 [.ns, .ns, .ns]) ::
  (5, .cells 65 [.ns, .ns, .ns]) ::
  (4, .cells 65 [.ns, .ns, .ns]) ::
  (3, .cells 67 [.ns, .ns, .ns, (j 1), (j 100), (.sl true 1 10 0 1 (.c 1))]) ::
  (2, .vec 3 1 (rp_ 7 (j 0) []) (.c 7)) ::
  (1, .vec 62 10 [(j 1), (j 0), (u 40), (u 0), (j 0), (u 0), .ff, (j 0), .ns, .ns] (.c 1)) ::
  (0, .big .z) :: h
def R4h : Heap := R4h0 (R4h1 (R4h2 (R4h3 (R4h4 []))))

set_option maxRecDepth 100000 in
theorem go4_sure : (runP Tryz.prog wt1 37 Tryz.f37 (tupL S4v) S4h S4n tellK).sure (isRes R4v R4h R4n) = true := by kernel_rfl
theorem go4_ok (𝔅 : BigRep) : SpecEnters Tryz.prog 𝔅 37 (atSpec (tupL S4v) S4h S4n R4v R4h R4n) := at_ok (runP_ok fit (wt1_ok 𝔅) Tryz.func37 (by kernel_rfl)) go4_sure
end SX
end Go.Proofs.YtcemhpdhcmlhlaaGreatDoor

/-
  State 5.
-/
namespace Go.Proofs.YtcemhpdhcmlhlaaGreatDoor
open Go.RowKit Go.Deep
namespace SX
/- S5 p: 180 objects of 180 -/
def S5v : SV := (.tup [(q 119), (j 0)])
def S5n : Nat := 1221
def S5h0 (h : Heap) : Heap :=
  (1220, mpi .i64 [(1, (.t [108, 111, 111, 107])), (2, (.t [114, 101, 112, 97, 121])), (3, (.t [99, 108, 101, 97, 110])), (4, (.t [116, 97, 107, 101])), (5, (.t [107, 101, 101, 112])), (6, (.t [108, 111, 99, 107])), (7, (.t [103, 114, 111, 119])), (8, (.t [100, 111])), (9, (.t [115, 112, 101, 99, 105, 97, 108])), (10, (.t [110, 101, 120, 116])), (11, (.t [111, 110, 101])), (12, (.t [115, 116, 111, 112])), (13, (.t [119, 97, 105, 116])), (14, (.t [100, 114, 97, 105, 110])), (15, (.t [99, 108, 101, 97, 110])), (16, (.t [102, 108, 105, 112]))]) ::
  (1219, .it 98) ::
  (1217, .vec 3 1 [(j 0)] (.o 1218 0)) ::
  (1216, .vec 3 1 [(j 0)] (.c 1)) ::
  (1215, .cells 24 [(j 0), (j 0), (.t [108, 111, 111, 107]), (j 0)]) ::
  (1213, .vec 24 4 [(j 0), (j 0), (.t [108, 111, 111, 107]), (j 0), (j 0), (j 0), (.t [114, 101, 112, 97, 121]), (j 0), (j 0), (j 0), (.t [116, 97, 107, 101]), (j 0), (j 0), (j 0), (.t [108, 111, 99, 107]), (j 0), (j 0), (j 0), (.t [103, 114, 111, 119]), (j 0)] (.o 1214 0)) ::
  (1212, .vec 24 4 [(j 0), (j 0), (.t [103, 114, 111, 119]), (j 0)] (.c 1)) ::
  (1211, .cells 448 ((j 1) :: (rp_ 511 (j 0) []))) ::
  (1202, .vec 298 1 [(q 1200)] (.o 1203 0)) ::
  (1200, .cells 431 [(j 1), .tt, .np]) ::
  (1199, .cells 328 [(u 4194304), (j 1), (j 1), (j 5), .tt, (j 48), (j 170), (j 0), .ff, .ff, (.l .u32 89478486), .ns, .ns, (j 0)]) ::
  (995, .vec 409 2 [(u 512), (u 513)] (.o 996 0)) ::
  (984, .vec 409 2 [] (.c 0)) ::
  (971, .vec 351 1 [(.m 957), (.m 961), (.m 965), (.m 969)] (.o 972 0)) ::
  (969, mpi .u64 []) ::
  (965, mpi .u64 []) ::
  (961, mpi .u64 []) ::
  (957, mpi .u64 []) ::
  (956, .vec 409 2 [] (.c 0)) ::
  (950, .vec 409 2 [(u 513), (u 1024)] (.o 951 0)) ::
  (939, .vec 409 2 [(u 513), (u 1024)] (.o 940 0)) ::
  (921, .vec 409 2 [(u 1), (u 2)] (.o 922 0)) ::
  (869, .vec 409 2 [(u 512), (u 1024)] (.o 870 0)) ::
  (855, .vec 409 2 [(u 512), (u 1024)] (.o 856 0)) ::
  (627, mpi .i64 [(1, (.t [108, 111, 111, 107])), (2, (.t [114, 101, 112, 97, 121])), (3, (.t [99, 108, 101, 97, 110])), (4, (.t [116, 97, 107, 101])), (5, (.t [107, 101, 101, 112])), (6, (.t [108, 111, 99, 107])), (7, (.t [103, 114, 111, 119])), (8, (.t [100, 111])), (9, (.t [115, 112, 101, 99, 105, 97, 108])), (10, (.t [110, 101, 120, 116])), (11, (.t [111, 110, 101])), (12, (.t [115, 116, 111, 112])), (13, (.t [119, 97, 105, 116])), (14, (.t [100, 114, 97, 105, 110])), (15, (.t [99, 108, 101, 97, 110])), (16, (.t [102, 108, 105, 112]))]) ::
  (626, .it 98) ::
  (624, .vec 3 1 [(j 0)] (.o 625 0)) ::
  (623, .vec 3 1 [(j 0)] (.c 1)) ::
  (622, .cells 24 [(j 0), (j 0), (.t [103, 114, 111, 119]), (j 0)]) ::
  (620, .gone) ::
  (619, .vec 24 4 [(j 0), (j 0), (.t [108, 111, 99, 107]), (j 0)] (.c 1)) ::
  (610, mpi .i64 [(1, (.t [108, 111, 111, 107])), (2, (.t [114, 101, 112, 97, 121])), (3, (.t [99, 108, 101, 97, 110])), (4, (.t [116, 97, 107, 101])), (5, (.t [107, 101, 101, 112])), (6, (.t [108, 111, 99, 107])), (7, (.t [103, 114, 111, 119])), (8, (.t [100, 111])), (9, (.t [115, 112, 101, 99, 105, 97, 108])), (10, (.t [110, 101, 120, 116])), (11, (.t [111, 110, 101])), (12, (.t [115, 116, 111, 112])), (13, (.t [119, 97, 105, 116])), (14, (.t [100, 114, 97, 105, 110])), (15, (.t [99, 108, 101, 97, 110])), (16, (.t [102, 108, 105, 112]))]) ::
  (609, .it 98) ::
  (607, .vec 3 1 [(j 0)] (.o 608 0)) ::
  (606, .vec 3 1 [(j 0)] (.c 1)) ::
  (605, .cells 24 [(j 0), (j 0), (.t [108, 111, 99, 107]), (j 0)]) ::
  (602, .vec 24 4 [(j 0), (j 0), (.t [116, 97, 107, 101]), (j 0)] (.c 1)) ::
  (592, mpi .i64 [(1, (.t [108, 111, 111, 107])), (2, (.t [114, 101, 112, 97, 121])), (3, (.t [99, 108, 101, 97, 110])), (4, (.t [116, 97, 107, 101])), (5, (.t [107, 101, 101, 112])), (6, (.t [108, 111, 99, 107])), (7, (.t [103, 114, 111, 119])), (8, (.t [100, 111])), (9, (.t [115, 112, 101, 99, 105, 97, 108])), (10, (.t [110, 101, 120, 116])), (11, (.t [111, 110, 101])), (12, (.t [115, 116, 111, 112])), (13, (.t [119, 97, 105, 116])), (14, (.t [100, 114, 97, 105, 110])), (15, (.t [99, 108, 101, 97, 110])), (16, (.t [102, 108, 105, 112]))]) ::
  (591, .it 98) ::
  (589, .vec 3 1 [(j 0)] (.o 590 0)) :: h
def S5h1 (h : Heap) : Heap :=
  (588, .vec 3 1 [(j 0)] (.c 1)) ::
  (587, .cells 24 [(j 0), (j 0), (.t [116, 97, 107, 101]), (j 0)]) ::
  (584, .vec 24 4 [(j 0), (j 0), (.t [114, 101, 112, 97, 121]), (j 0)] (.c 1)) ::
  (576, mpi .i64 [(1, (.t [108, 111, 111, 107])), (2, (.t [114, 101, 112, 97, 121])), (3, (.t [99, 108, 101, 97, 110])), (4, (.t [116, 97, 107, 101])), (5, (.t [107, 101, 101, 112])), (6, (.t [108, 111, 99, 107])), (7, (.t [103, 114, 111, 119])), (8, (.t [100, 111])), (9, (.t [115, 112, 101, 99, 105, 97, 108])), (10, (.t [110, 101, 120, 116])), (11, (.t [111, 110, 101])), (12, (.t [115, 116, 111, 112])), (13, (.t [119, 97, 105, 116])), (14, (.t [100, 114, 97, 105, 110])), (15, (.t [99, 108, 101, 97, 110])), (16, (.t [102, 108, 105, 112]))]) ::
  (575, .it 98) ::
  (573, .vec 3 1 [(j 0)] (.o 574 0)) ::
  (572, .vec 3 1 [(j 0)] (.c 1)) ::
  (571, .cells 24 [(j 0), (j 0), (.t [114, 101, 112, 97, 121]), (j 0)]) ::
  (568, .vec 24 4 [(j 0), (j 0), (.t [108, 111, 111, 107]), (j 0)] (.c 1)) ::
  (146, mpi .i64 [(1, (.t [108, 111, 111, 107])), (2, (.t [114, 101, 112, 97, 121])), (3, (.t [99, 108, 101, 97, 110])), (4, (.t [116, 97, 107, 101])), (5, (.t [107, 101, 101, 112])), (6, (.t [108, 111, 99, 107])), (7, (.t [103, 114, 111, 119])), (8, (.t [100, 111])), (9, (.t [115, 112, 101, 99, 105, 97, 108])), (10, (.t [110, 101, 120, 116])), (11, (.t [111, 110, 101])), (12, (.t [115, 116, 111, 112])), (13, (.t [119, 97, 105, 116])), (14, (.t [100, 114, 97, 105, 110])), (15, (.t [99, 108, 101, 97, 110])), (16, (.t [102, 108, 105, 112]))]) ::
  (145, .it 98) ::
  (143, .vec 3 1 [(j 0)] (.o 144 0)) ::
  (142, .vec 3 1 [(j 0)] (.c 1)) ::
  (141, .cells 24 [(j 0), (j 0), (.t [108, 111, 111, 107]), (j 0)]) ::
  (139, .vec 3 1 [(j 0)] (.o 140 0)) ::
  (138, .vec 3 1 [(j 0)] (.c 1)) ::
  (136, .vec 125 1 [(q 134)] (.o 137 0)) ::
  (135, .vec 125 1 [(q 134)] (.c 1)) ::
  (134, .cells 129 [(j 1), (j 0), (u 40), (u 0), (j 0), (u 0), .ff, (j 0), .ns, .ns, (u 0), (u 0), (j 0), .ff]) ::
  (133, .cells 62 [(j 1), (j 0), (u 40), (u 0), (j 0), (u 0), .ff, (j 0), .ns, .ns]) ::
  (132, .cells 62 [(j 1), (j 0), (u 40), (u 0), (j 0), (u 0), .ff, (j 0), .ns, .ns]) ::
  (130, .vec 118 1 [(q 120), (q 124), (q 128)] (.o 131 0)) ::
  (129, .vec 118 1 [(q 128)] (.c 1)) ::
  (128, .cells 122 ((j 2) :: (rp_ 4 (j 0) [.ff, .ff, (u 0), (u 0)]))) ::
  (125, .vec 118 1 [(q 124)] (.c 1)) ::
  (124, .cells 122 ((j 1) :: (rp_ 4 (j 0) [.ff, .ff, (u 0), (u 0)]))) ::
  (121, .vec 118 1 [(q 120)] (.c 1)) ::
  (120, .cells 122 [(j 0), (j 0), (j 1), (j 0), (j 5), .tt, .ff, (u 1), (u 0)]) ::
  (119, .cells 117 [(q 103), (q 116), (.sl true 130 1 0 3 (.o 131 0)), (.sl true 117 1 0 1 (.c 1)), (.sl true 136 1 0 1 (.o 137 0)), .ns, (.l .i64 (-1)), (.l .i64 (-1)), .ff, .ff, (.m 118)]) ::
  (118, mpi .i64 [(1, (.fn 85 [])), (2, (.fn 86 [])), (3, (.fn 87 [])), (4, (.fn 88 [])), (5, (.fn 89 [])), (6, (.fn 90 [])), (7, (.fn 91 [])), (8, (.fn 92 [])), (9, (.fn 93 [])), (10, (.fn 94 [])), (11, (.fn 95 [])), (12, (.fn 96 [])), (13, (.fn 97 [])), (14, (.fn 98 [])), (15, (.fn 99 [])), (16, (.fn 100 []))]) ::
  (117, .vec 68 1 [(.sl true 139 1 1 0 (.o 140 1))] (.c 1)) ::
  (116, .cells 168 [(q 30), (u 4607632778762754458)]) ::
  (114, .vec 165 1 [(q 112)] (.o 115 0)) ::
  (113, .vec 165 1 [(q 112)] (.c 1)) ::
  (112, .cells 247 ((q 111) :: (rp_ 12 (j 0) ((j 1) :: (rp_ 124 (j 0) [(u 0), (j 0)]))))) ::
  (111, .cells 242 [(q 104)]) ::
  (110, mpi .i64 []) ::
  (109, mpi .i64 []) ::
  (108, mpi .i64 []) ::
  (107, mpi .i64 []) :: h
def S5h2 (h : Heap) : Heap :=
  (106, .cells 240 ((q 30) :: (rp_ 256 .ns [(.m 107), (.m 108), (.m 109), (.m 110), (.m 105)]))) ::
  (105, mpi .u64 []) ::
  (104, .cells 234 [(q 30), (q 99), (q 100), .ns, (u 0), (u 0), (u 8192), (u 0)]) ::
  (103, .cells 109 [(q 30), (q 99), (q 100), (q 104), (.sl true 114 1 0 1 (.o 115 0)), (q 106), (.m 101), (q 102), (j 100), .ff, (u 0), (u 0)]) ::
  (102, .cells 231 [.ns]) ::
  (101, mpi .i64 []) ::
  (100, .cells 228 [.np, (j 0)]) ::
  (99, .cells 225 [(.m 96), (.m 97), (.m 98)]) ::
  (98, .mp .non []) ::
  (97, mpi .u64 []) ::
  (96, mpi .i64 []) ::
  (95, .cells 302 [(u 0), (u 0), (u 0)]) ::
  (94, .cells 302 [(u 0), (u 0), (u 0)]) ::
  (93, .cells 302 [(u 0), (u 0), (u 0)]) ::
  (92, .cells 302 [(u 0), (u 0), (u 0)]) ::
  (91, .cells 302 [(u 0), (u 0), (u 0)]) ::
  (90, .cells 302 [(u 0), (u 0), (u 0)]) ::
  (89, .cells 302 [(u 0), (u 0), (u 0)]) ::
  (88, .cells 302 [(u 0), (u 0), (u 0)]) ::
  (87, .cells 302 [(u 0), (u 0), (u 0)]) ::
  (86, .cells 302 [(u 0), (u 0), (u 0)]) ::
  (85, .cells 302 [(u 0), (u 0), (u 0)]) ::
  (84, .cells 302 [(u 0), (u 0), (u 0)]) ::
  (83, .cells 302 [(u 0), (u 0), (u 0)]) ::
  (82, .cells 302 [(u 0), (u 0), (u 0)]) ::
  (81, .cells 302 [(u 0), (u 0), (u 0)]) ::
  (80, .cells 302 [(u 0), (u 0), (u 0)]) ::
  (79, .cells 302 [(u 0), (u 0), (u 0)]) ::
  (78, .cells 302 [(u 0), (u 0), (u 0)]) ::
  (77, .cells 302 [(u 0), (u 0), (u 0)]) ::
  (76, .cells 302 [(u 0), (u 0), (u 0)]) ::
  (75, .cells 302 [(u 0), (u 0), (u 0)]) ::
  (74, .cells 302 [(u 0), (u 0), (u 0)]) ::
  (73, .cells 302 [(u 0), (u 0), (u 0)]) ::
  (72, .cells 302 [(u 0), (u 0), (u 0)]) ::
  (71, .cells 302 [(u 0), (u 0), (u 0)]) ::
  (70, .cells 302 [(u 0), (u 0), (u 0)]) ::
  (69, .cells 302 [(u 0), (u 0), (u 0)]) ::
  (68, .cells 302 [(u 0), (u 0), (u 0)]) ::
  (67, .cells 302 [(u 0), (u 0), (u 0)]) :: h
def S5h3 (h : Heap) : Heap :=
  (66, .cells 302 [(u 0), (u 0), (u 0)]) ::
  (65, .cells 302 [(u 0), (u 0), (u 0)]) ::
  (64, .cells 302 [(u 0), (u 0), (u 0)]) ::
  (63, .cells 302 [(u 0), (u 0), (u 0)]) ::
  (62, .cells 302 [(u 0), (u 0), (u 0)]) ::
  (61, .cells 302 [(u 0), (u 0), (u 0)]) ::
  (60, .cells 302 [(u 0), (u 0), (u 0)]) ::
  (59, .cells 302 [(u 0), (u 0), (u 0)]) ::
  (58, .cells 302 [(u 0), (u 0), (u 0)]) ::
  (57, .cells 302 [(u 0), (u 0), (u 0)]) ::
  (56, .cells 302 [(u 0), (u 0), (u 0)]) ::
  (55, .cells 302 [(u 0), (u 0), (u 0)]) ::
  (54, .cells 302 [(u 0), (u 0), (u 0)]) ::
  (53, .cells 302 [(u 0), (u 0), (u 0)]) ::
  (52, .cells 302 [(u 0), (u 0), (u 0)]) ::
  (51, .cells 302 [(u 0), (u 0), (u 0)]) ::
  (50, .cells 302 [(u 0), (u 0), (u 0)]) ::
  (49, .cells 302 [(u 0), (u 0), (u 0)]) ::
  (48, .cells 302 [(u 0), (u 0), (u 0)]) ::
  (47, .cells 302 [(u 0), (u 0), (u 0)]) ::
  (46, .cells 302 [(u 0), (u 0), (u 0)]) ::
  (45, .cells 302 [(u 0), (u 0), (u 0)]) ::
  (44, .cells 302 [(u 0), (u 0), (u 0)]) ::
  (43, .cells 302 [(u 0), (u 0), (u 0)]) ::
  (42, .cells 302 [(u 0), (u 0), (u 0)]) ::
  (41, .cells 302 [(u 0), (u 0), (u 0)]) ::
  (40, .cells 302 [(u 0), (u 0), (u 0)]) ::
  (39, .cells 302 [(u 0), (u 0), (u 0)]) ::
  (38, .cells 302 [(u 0), (u 0), (u 0)]) ::
  (37, .cells 302 [(u 0), (u 0), (u 0)]) ::
  (36, .cells 302 [(u 0), (u 0), (u 0)]) ::
  (35, .cells 302 [(u 0), (u 0), (u 0)]) ::
  (34, .cells 302 [(u 0), (u 0), (u 0)]) ::
  (33, .cells 302 [(u 0), (u 0), (u 0)]) ::
  (32, .cells 302 [(u 0), (u 0), (u 0)]) ::
  (31, .cells 300 [(j 1), (.sl true 1202 1 0 1 (.o 1203 0)), .np, (j 1)]) ::
  (30, .cells 210 [(q 9), (q 10), (q 28), (q 31), (.m 29), (q 32), (q 33), (q 34), (q 35), (q 36), (q 37), (q 38), (q 39), (q 40), (q 41), (q 42), (q 43), (q 44), (q 45), (q 46), (q 47), (q 48), (q 49), (q 50), (q 51), (q 52), (q 53), (q 54), (q 55), (q 56), (q 57), (q 58), (q 59), (q 60), (q 61), (q 62), (q 63), (q 64), (q 65), (q 66), (q 67), (q 68), (q 69), (q 70), (q 71), (q 72), (q 73), (q 74), (q 75), (q 76), (q 77), (q 78), (q 79), (q 80), (q 81), (q 82), (q 83), (q 84), (q 85), (q 86), (q 87), (q 88), (q 89), (q 90), (q 91), (q 92), (q 93), (q 94), (q 95), (u 1024), (u 1)]) ::
  (29, mpi .i64 [(1, (q 1199))]) ::
  (28, .cells 296 [(.sl true 921 2 0 1 (.o 922 0)), (u 1), .ns, (.m 27)]) ::
  (27, mpi .u64 [(1, (q 1211))]) :: h
def S5h4 (h : Heap) : Heap :=
  (25, .vec 351 1 [(.m 11), (.m 15), (.m 19), (.m 23)] (.o 26 0)) ::
  (24, .vec 351 1 [(.m 23)] (.c 1)) ::
  (23, mpi .u64 []) ::
  (20, .vec 351 1 [(.m 19)] (.c 1)) ::
  (19, mpi .u64 []) ::
  (16, .vec 351 1 [(.m 15)] (.c 1)) ::
  (15, mpi .u64 []) ::
  (12, .vec 351 1 [(.m 11)] (.c 1)) ::
  (11, mpi .u64 []) ::
  (10, .cells 292 [(.sl true 869 2 0 1 (.o 870 0)), (u 512), (.sl true 939 2 0 1 (.o 940 0)), (u 511), (.sl true 950 2 0 1 (.o 951 0)), (u 511), (.sl true 956 2 0 0 (.zr)), (u 0), (.sl true 971 1 0 4 (.o 972 0))]) ::
  (9, .cells 220 [.ns, .ns, .ns, (.sl true 855 2 0 1 (.o 856 0)), (u 512), (.sl true 995 2 0 1 (.o 996 0)), (u 1), (.sl true 984 2 0 0 (.zr)), (u 0), (.m 7), (.m 8)]) ::
  (8, mpi .u64 []) ::
  (7, mpi .u64 []) ::
  (6, .cells 65 [.ns, .ns, .ns]) ::
  (5, .cells 65 [.ns, .ns, .ns]) ::
  (4, .cells 65 [.ns, .ns, .ns]) ::
  (3, .cells 67 [.ns, .ns, .ns, (j 1), (j 100), (.sl true 1 10 0 1 (.c 1))]) ::
  (2, .vec 3 1 (rp_ 7 (j 0) []) (.c 7)) ::
  (1, .vec 62 10 [(j 1), (j 0), (u 40), (u 0), (j 0), (u 0), .ff, (j 0), .ns, .ns] (.c 1)) ::
  (0, .big .z) :: h
def S5h : Heap := S5h0 (S5h1 (S5h2 (S5h3 (S5h4 []))))
end SX
end Go.Proofs.YtcemhpdhcmlhlaaGreatDoor

/-
  The step from state 5.
-/
namespace Go.Proofs.YtcemhpdhcmlhlaaGreatDoor
open Go.RowKit Go.Deep
namespace SX
/- R5 r: 182 objects of 210 -/
def R5v : SV := (.tup [(j 0), (j 0)])
def R5n : Nat := 1656
def R5h0 (h : Heap) : Heap :=
  (1654, .vec 3 1 [(j 0)] (.o 1655 0)) ::
  (1650, .vec 412 4 [] (.c 0)) ::
  (1641, .vec 56 1 [(u 1)] (.o 1642 0)) ::
  (1220, mpi .i64 [(1, (.t [108, 111, 111, 107])), (2, (.t [114, 101, 112, 97, 121])), (3, (.t [99, 108, 101, 97, 110])), (4, (.t [116, 97, 107, 101])), (5, (.t [107, 101, 101, 112])), (6, (.t [108, 111, 99, 107])), (7, (.t [103, 114, 111, 119])), (8, (.t [100, 111])), (9, (.t [115, 112, 101, 99, 105, 97, 108])), (10, (.t [110, 101, 120, 116])), (11, (.t [111, 110, 101])), (12, (.t [115, 116, 111, 112])), (13, (.t [119, 97, 105, 116])), (14, (.t [100, 114, 97, 105, 110])), (15, (.t [99, 108, 101, 97, 110])), (16, (.t [102, 108, 105, 112]))]) ::
  (1219, .it 98) ::
  (1217, .vec 3 1 [(j 0)] (.o 1218 0)) ::
  (1216, .vec 3 1 [(j 0)] (.c 1)) ::
  (1215, .cells 24 [(j 0), (j 0), (.t [108, 111, 111, 107]), (j 0)]) ::
  (1213, .vec 24 4 [(j 0), (j 0), (.t [108, 111, 111, 107]), (j 0), (j 0), (j 0), (.t [114, 101, 112, 97, 121]), (j 0), (j 0), (j 0), (.t [116, 97, 107, 101]), (j 0), (j 0), (j 0), (.t [108, 111, 99, 107]), (j 0), (j 0), (j 0), (.t [103, 114, 111, 119]), (j 0)] (.o 1214 0)) ::
  (1212, .vec 24 4 [(j 0), (j 0), (.t [103, 114, 111, 119]), (j 0)] (.c 1)) ::
  (1211, .cells 448 ((j 1) :: (rp_ 511 (j 0) []))) ::
  (1202, .vec 298 1 [(q 1200)] (.o 1203 0)) ::
  (1200, .cells 431 [(j 1), .tt, .np]) ::
  (1199, .cells 328 [(u 4194304), (j 1), (j 1), (j 5), .tt, (j 48), (j 170), (j 1), .ff, .ff, (.l .u32 89478486), (.sl true 1641 1 0 1 (.o 1642 0)), .ns, (j 1)]) ::
  (995, .vec 409 2 [(u 512), (u 513)] (.o 996 0)) ::
  (984, .vec 409 2 [] (.c 0)) ::
  (971, .vec 351 1 [(.m 957), (.m 961), (.m 965), (.m 969)] (.o 972 0)) ::
  (969, mpi .u64 []) ::
  (965, mpi .u64 []) ::
  (961, mpi .u64 []) ::
  (957, mpi .u64 []) ::
  (956, .vec 409 2 [] (.c 0)) ::
  (950, .vec 409 2 [(u 513), (u 1024)] (.o 951 0)) ::
  (939, .vec 409 2 [(u 513), (u 1024)] (.o 940 0)) ::
  (921, .vec 409 2 [(u 1), (u 2)] (.o 922 0)) ::
  (869, .vec 409 2 [(u 512), (u 1024)] (.o 870 0)) ::
  (855, .vec 409 2 [(u 512), (u 1024)] (.o 856 0)) ::
  (627, mpi .i64 [(1, (.t [108, 111, 111, 107])), (2, (.t [114, 101, 112, 97, 121])), (3, (.t [99, 108, 101, 97, 110])), (4, (.t [116, 97, 107, 101])), (5, (.t [107, 101, 101, 112])), (6, (.t [108, 111, 99, 107])), (7, (.t [103, 114, 111, 119])), (8, (.t [100, 111])), (9, (.t [115, 112, 101, 99, 105, 97, 108])), (10, (.t [110, 101, 120, 116])), (11, (.t [111, 110, 101])), (12, (.t [115, 116, 111, 112])), (13, (.t [119, 97, 105, 116])), (14, (.t [100, 114, 97, 105, 110])), (15, (.t [99, 108, 101, 97, 110])), (16, (.t [102, 108, 105, 112]))]) ::
  (626, .it 98) ::
  (624, .vec 3 1 [(j 0)] (.o 625 0)) ::
  (623, .vec 3 1 [(j 0)] (.c 1)) ::
  (622, .cells 24 [(j 0), (j 0), (.t [103, 114, 111, 119]), (j 0)]) ::
  (619, .vec 24 4 [(j 0), (j 0), (.t [108, 111, 99, 107]), (j 0)] (.c 1)) ::
  (610, mpi .i64 [(1, (.t [108, 111, 111, 107])), (2, (.t [114, 101, 112, 97, 121])), (3, (.t [99, 108, 101, 97, 110])), (4, (.t [116, 97, 107, 101])), (5, (.t [107, 101, 101, 112])), (6, (.t [108, 111, 99, 107])), (7, (.t [103, 114, 111, 119])), (8, (.t [100, 111])), (9, (.t [115, 112, 101, 99, 105, 97, 108])), (10, (.t [110, 101, 120, 116])), (11, (.t [111, 110, 101])), (12, (.t [115, 116, 111, 112])), (13, (.t [119, 97, 105, 116])), (14, (.t [100, 114, 97, 105, 110])), (15, (.t [99, 108, 101, 97, 110])), (16, (.t [102, 108, 105, 112]))]) ::
  (609, .it 98) ::
  (607, .vec 3 1 [(j 0)] (.o 608 0)) ::
  (606, .vec 3 1 [(j 0)] (.c 1)) ::
  (605, .cells 24 [(j 0), (j 0), (.t [108, 111, 99, 107]), (j 0)]) ::
  (602, .vec 24 4 [(j 0), (j 0), (.t [116, 97, 107, 101]), (j 0)] (.c 1)) ::
  (592, mpi .i64 [(1, (.t [108, 111, 111, 107])), (2, (.t [114, 101, 112, 97, 121])), (3, (.t [99, 108, 101, 97, 110])), (4, (.t [116, 97, 107, 101])), (5, (.t [107, 101, 101, 112])), (6, (.t [108, 111, 99, 107])), (7, (.t [103, 114, 111, 119])), (8, (.t [100, 111])), (9, (.t [115, 112, 101, 99, 105, 97, 108])), (10, (.t [110, 101, 120, 116])), (11, (.t [111, 110, 101])), (12, (.t [115, 116, 111, 112])), (13, (.t [119, 97, 105, 116])), (14, (.t [100, 114, 97, 105, 110])), (15, (.t [99, 108, 101, 97, 110])), (16, (.t [102, 108, 105, 112]))]) :: h
def R5h1 (h : Heap) : Heap :=
  (591, .it 98) ::
  (589, .vec 3 1 [(j 0)] (.o 590 0)) ::
  (588, .vec 3 1 [(j 0)] (.c 1)) ::
  (587, .cells 24 [(j 0), (j 0), (.t [116, 97, 107, 101]), (j 0)]) ::
  (584, .vec 24 4 [(j 0), (j 0), (.t [114, 101, 112, 97, 121]), (j 0)] (.c 1)) ::
  (576, mpi .i64 [(1, (.t [108, 111, 111, 107])), (2, (.t [114, 101, 112, 97, 121])), (3, (.t [99, 108, 101, 97, 110])), (4, (.t [116, 97, 107, 101])), (5, (.t [107, 101, 101, 112])), (6, (.t [108, 111, 99, 107])), (7, (.t [103, 114, 111, 119])), (8, (.t [100, 111])), (9, (.t [115, 112, 101, 99, 105, 97, 108])), (10, (.t [110, 101, 120, 116])), (11, (.t [111, 110, 101])), (12, (.t [115, 116, 111, 112])), (13, (.t [119, 97, 105, 116])), (14, (.t [100, 114, 97, 105, 110])), (15, (.t [99, 108, 101, 97, 110])), (16, (.t [102, 108, 105, 112]))]) ::
  (575, .it 98) ::
  (573, .vec 3 1 [(j 0)] (.o 574 0)) ::
  (572, .vec 3 1 [(j 0)] (.c 1)) ::
  (571, .cells 24 [(j 0), (j 0), (.t [114, 101, 112, 97, 121]), (j 0)]) ::
  (568, .vec 24 4 [(j 0), (j 0), (.t [108, 111, 111, 107]), (j 0)] (.c 1)) ::
  (146, mpi .i64 [(1, (.t [108, 111, 111, 107])), (2, (.t [114, 101, 112, 97, 121])), (3, (.t [99, 108, 101, 97, 110])), (4, (.t [116, 97, 107, 101])), (5, (.t [107, 101, 101, 112])), (6, (.t [108, 111, 99, 107])), (7, (.t [103, 114, 111, 119])), (8, (.t [100, 111])), (9, (.t [115, 112, 101, 99, 105, 97, 108])), (10, (.t [110, 101, 120, 116])), (11, (.t [111, 110, 101])), (12, (.t [115, 116, 111, 112])), (13, (.t [119, 97, 105, 116])), (14, (.t [100, 114, 97, 105, 110])), (15, (.t [99, 108, 101, 97, 110])), (16, (.t [102, 108, 105, 112]))]) ::
  (145, .it 98) ::
  (143, .vec 3 1 [(j 0)] (.o 144 0)) ::
  (142, .vec 3 1 [(j 0)] (.c 1)) ::
  (141, .cells 24 [(j 0), (j 0), (.t [108, 111, 111, 107]), (j 0)]) ::
  (139, .vec 3 1 [(j 0)] (.o 140 0)) ::
  (138, .vec 3 1 [(j 0)] (.c 1)) ::
  (136, .vec 125 1 [(q 134)] (.o 137 0)) ::
  (135, .vec 125 1 [(q 134)] (.c 1)) ::
  (134, .cells 129 [(j 1), (j 0), (u 40), (u 0), (j 0), (u 0), .ff, (j 0), .ns, .ns, (u 4194304), (u 48), (j 0), .tt]) ::
  (133, .cells 62 [(j 1), (j 0), (u 40), (u 0), (j 0), (u 0), .ff, (j 0), .ns, .ns]) ::
  (132, .cells 62 [(j 1), (j 0), (u 40), (u 0), (j 0), (u 0), .ff, (j 0), .ns, .ns]) ::
  (130, .vec 118 1 [(q 120), (q 124), (q 128)] (.o 131 0)) ::
  (129, .vec 118 1 [(q 128)] (.c 1)) ::
  (128, .cells 122 ((j 2) :: (rp_ 4 (j 0) [.ff, .ff, (u 0), (u 0)]))) ::
  (125, .vec 118 1 [(q 124)] (.c 1)) ::
  (124, .cells 122 ((j 1) :: (rp_ 4 (j 0) [.ff, .ff, (u 0), (u 0)]))) ::
  (121, .vec 118 1 [(q 120)] (.c 1)) ::
  (120, .cells 122 (rp_ 4 (j 0) [(j 5), .tt, .ff, (u 1), (u 0)])) ::
  (119, .cells 117 [(q 103), (q 116), (.sl true 130 1 0 3 (.o 131 0)), (.sl true 117 1 0 1 (.c 1)), (.sl true 136 1 0 1 (.o 137 0)), (.sl true 1654 1 0 1 (.o 1655 0)), (.l .i64 (-1)), (.l .i64 (-1)), .ff, .ff, (.m 118)]) ::
  (118, mpi .i64 [(1, (.fn 85 [])), (2, (.fn 86 [])), (3, (.fn 87 [])), (4, (.fn 88 [])), (5, (.fn 89 [])), (6, (.fn 90 [])), (7, (.fn 91 [])), (8, (.fn 92 [])), (9, (.fn 93 [])), (10, (.fn 94 [])), (11, (.fn 95 [])), (12, (.fn 96 [])), (13, (.fn 97 [])), (14, (.fn 98 [])), (15, (.fn 99 [])), (16, (.fn 100 []))]) ::
  (117, .vec 68 1 [(.sl true 139 1 1 0 (.o 140 1))] (.c 1)) ::
  (116, .cells 168 [(q 30), (u 4607632778762754458)]) ::
  (114, .vec 165 1 [(q 112)] (.o 115 0)) ::
  (113, .vec 165 1 [(q 112)] (.c 1)) ::
  (112, .cells 247 ((q 111) :: (rp_ 12 (j 0) ((j 1) :: (rp_ 124 (j 0) [(u 0), (j 0)]))))) ::
  (111, .cells 242 [(q 104)]) ::
  (110, mpi .i64 []) ::
  (109, mpi .i64 []) :: h
def R5h2 (h : Heap) : Heap :=
  (108, mpi .i64 []) ::
  (107, mpi .i64 []) ::
  (106, .cells 240 ((q 30) :: (rp_ 256 .ns [(.m 107), (.m 108), (.m 109), (.m 110), (.m 105)]))) ::
  (105, mpi .u64 []) ::
  (104, .cells 234 [(q 30), (q 99), (q 100), .ns, (u 0), (u 0), (u 8192), (u 0)]) ::
  (103, .cells 109 [(q 30), (q 99), (q 100), (q 104), (.sl true 114 1 0 1 (.o 115 0)), (q 106), (.m 101), (q 102), (j 100), .ff, (u 1), (u 0)]) ::
  (102, .cells 231 [(.sl true 1650 4 0 0 (.zr))]) ::
  (101, mpi .i64 []) ::
  (100, .cells 228 [.np, (j 0)]) ::
  (99, .cells 225 [(.m 96), (.m 97), (.m 98)]) ::
  (98, .mp .non []) ::
  (97, mpi .u64 []) ::
  (96, mpi .i64 []) ::
  (95, .cells 302 [(u 0), (u 0), (u 0)]) ::
  (94, .cells 302 [(u 0), (u 0), (u 0)]) ::
  (93, .cells 302 [(u 0), (u 0), (u 0)]) ::
  (92, .cells 302 [(u 0), (u 0), (u 0)]) ::
  (91, .cells 302 [(u 0), (u 0), (u 0)]) ::
  (90, .cells 302 [(u 0), (u 0), (u 0)]) ::
  (89, .cells 302 [(u 0), (u 0), (u 0)]) ::
  (88, .cells 302 [(u 0), (u 0), (u 0)]) ::
  (87, .cells 302 [(u 0), (u 0), (u 0)]) ::
  (86, .cells 302 [(u 0), (u 0), (u 0)]) ::
  (85, .cells 302 [(u 0), (u 0), (u 0)]) ::
  (84, .cells 302 [(u 0), (u 0), (u 0)]) ::
  (83, .cells 302 [(u 0), (u 0), (u 0)]) ::
  (82, .cells 302 [(u 0), (u 0), (u 0)]) ::
  (81, .cells 302 [(u 0), (u 0), (u 0)]) ::
  (80, .cells 302 [(u 0), (u 0), (u 0)]) ::
  (79, .cells 302 [(u 0), (u 0), (u 0)]) ::
  (78, .cells 302 [(u 0), (u 0), (u 0)]) ::
  (77, .cells 302 [(u 0), (u 0), (u 0)]) ::
  (76, .cells 302 [(u 0), (u 0), (u 0)]) ::
  (75, .cells 302 [(u 0), (u 0), (u 0)]) ::
  (74, .cells 302 [(u 0), (u 0), (u 0)]) ::
  (73, .cells 302 [(u 0), (u 0), (u 0)]) ::
  (72, .cells 302 [(u 0), (u 0), (u 0)]) ::
  (71, .cells 302 [(u 0), (u 0), (u 0)]) ::
  (70, .cells 302 [(u 0), (u 0), (u 0)]) ::
  (69, .cells 302 [(u 0), (u 0), (u 0)]) :: h
def R5h3 (h : Heap) : Heap :=
  (68, .cells 302 [(u 0), (u 0), (u 0)]) ::
  (67, .cells 302 [(u 0), (u 0), (u 0)]) ::
  (66, .cells 302 [(u 0), (u 0), (u 0)]) ::
  (65, .cells 302 [(u 0), (u 0), (u 0)]) ::
  (64, .cells 302 [(u 0), (u 0), (u 0)]) ::
  (63, .cells 302 [(u 0), (u 0), (u 0)]) ::
  (62, .cells 302 [(u 0), (u 0), (u 0)]) ::
  (61, .cells 302 [(u 0), (u 0), (u 0)]) ::
  (60, .cells 302 [(u 0), (u 0), (u 0)]) ::
  (59, .cells 302 [(u 0), (u 0), (u 0)]) ::
  (58, .cells 302 [(u 0), (u 0), (u 0)]) ::
  (57, .cells 302 [(u 0), (u 0), (u 0)]) ::
  (56, .cells 302 [(u 0), (u 0), (u 0)]) ::
  (55, .cells 302 [(u 0), (u 0), (u 0)]) ::
  (54, .cells 302 [(u 0), (u 0), (u 0)]) ::
  (53, .cells 302 [(u 0), (u 0), (u 0)]) ::
  (52, .cells 302 [(u 0), (u 0), (u 0)]) ::
  (51, .cells 302 [(u 0), (u 0), (u 0)]) ::
  (50, .cells 302 [(u 0), (u 0), (u 0)]) ::
  (49, .cells 302 [(u 0), (u 0), (u 0)]) ::
  (48, .cells 302 [(u 0), (u 0), (u 0)]) ::
  (47, .cells 302 [(u 0), (u 0), (u 0)]) ::
  (46, .cells 302 [(u 0), (u 0), (u 0)]) ::
  (45, .cells 302 [(u 0), (u 0), (u 0)]) ::
  (44, .cells 302 [(u 0), (u 0), (u 0)]) ::
  (43, .cells 302 [(u 0), (u 0), (u 0)]) ::
  (42, .cells 302 [(u 0), (u 0), (u 0)]) ::
  (41, .cells 302 [(u 0), (u 0), (u 0)]) ::
  (40, .cells 302 [(u 0), (u 0), (u 0)]) ::
  (39, .cells 302 [(u 0), (u 0), (u 0)]) ::
  (38, .cells 302 [(u 0), (u 0), (u 0)]) ::
  (37, .cells 302 [(u 0), (u 0), (u 0)]) ::
  (36, .cells 302 [(u 0), (u 0), (u 0)]) ::
  (35, .cells 302 [(u 0), (u 0), (u 0)]) ::
  (34, .cells 302 [(u 0), (u 0), (u 0)]) ::
  (33, .cells 302 [(u 0), (u 0), (u 0)]) ::
  (32, .cells 302 [(u 0), (u 0), (u 0)]) ::
  (31, .cells 300 [(j 1), (.sl true 1202 1 0 1 (.o 1203 0)), .np, (j 1)]) ::
  (30, .cells 210 [(q 9), (q 10), (q 28), (q 31), (.m 29), (q 32), (q 33), (q 34), (q 35), (q 36), (q 37), (q 38), (q 39), (q 40), (q 41), (q 42), (q 43), (q 44), (q 45), (q 46), (q 47), (q 48), (q 49), (q 50), (q 51), (q 52), (q 53), (q 54), (q 55), (q 56), (q 57), (q 58), (q 59), (q 60), (q 61), (q 62), (q 63), (q 64), (q 65), (q 66), (q 67), (q 68), (q 69), (q 70), (q 71), (q 72), (q 73), (q 74), (q 75), (q 76), (q 77), (q 78), (q 79), (q 80), (q 81), (q 82), (q 83), (q 84), (q 85), (q 86), (q 87), (q 88), (q 89), (q 90), (q 91), (q 92), (q 93), (q 94), (q 95), (u 1024), (u 1)]) ::
  (29, mpi .i64 [(1, (q 1199))]) :: h
def R5h4 (h : Heap) : Heap :=
  (28, .cells 296 [(.sl true 921 2 0 1 (.o 922 0)), (u 1), .ns, (.m 27)]) ::
  (27, mpi .u64 [(1, (q 1211))]) ::
  (25, .vec 351 1 [(.m 11), (.m 15), (.m 19), (.m 23)] (.o 26 0)) ::
  (24, .vec 351 1 [(.m 23)] (.c 1)) ::
  (23, mpi .u64 []) ::
  (20, .vec 351 1 [(.m 19)] (.c 1)) ::
  (19, mpi .u64 []) ::
  (16, .vec 351 1 [(.m 15)] (.c 1)) ::
  (15, mpi .u64 []) ::
  (12, .vec 351 1 [(.m 11)] (.c 1)) ::
  (11, mpi .u64 []) ::
  (10, .cells 292 [(.sl true 869 2 0 1 (.o 870 0)), (u 512), (.sl true 939 2 0 1 (.o 940 0)), (u 511), (.sl true 950 2 0 1 (.o 951 0)), (u 511), (.sl true 956 2 0 0 (.zr)), (u 0), (.sl true 971 1 0 4 (.o 972 0))]) ::
  (9, .cells 220 [.ns, .ns, .ns, (.sl true 855 2 0 1 (.o 856 0)), (u 512), (.sl true 995 2 0 1 (.o 996 0)), (u 1), (.sl true 984 2 0 0 (.zr)), (u 0), (.m 7), (.m 8)]) ::
  (8, mpi .u64 []) ::
  (7, mpi .u64 []) ::
  (6, .cells 65 [.ns, .ns, .ns]) ::
  (5, .cells 65 [.ns, .ns, .ns]) ::
  (4, .cells 65 [.ns, .ns, .ns]) ::
  (3, .cells 67 [.ns, .ns, .ns, (j 1), (j 100), (.sl true 1 10 0 1 (.c 1))]) ::
  (2, .vec 3 1 (rp_ 7 (j 0) []) (.c 7)) ::
  (1, .vec 62 10 [(j 1), (j 0), (u 40), (u 0), (j 0), (u 0), .ff, (j 0), .ns, .ns] (.c 1)) ::
  (0, .big .z) :: h
def R5h : Heap := R5h0 (R5h1 (R5h2 (R5h3 (R5h4 []))))

set_option maxRecDepth 100000 in
theorem go5_sure : (runP Tryz.prog wt1 37 Tryz.f37 (tupL S5v) S5h S5n tellK).sure (isRes R5v R5h R5n) = true := by kernel_rfl
theorem go5_ok (𝔅 : BigRep) : SpecEnters Tryz.prog 𝔅 37 (atSpec (tupL S5v) S5h S5n R5v R5h R5n) := at_ok (runP_ok fit (wt1_ok 𝔅) Tryz.func37 (by kernel_rfl)) go5_sure
end SX
end Go.Proofs.YtcemhpdhcmlhlaaGreatDoor

/-
  State 6.
-/
namespace Go.Proofs.YtcemhpdhcmlhlaaGreatDoor
open Go.RowKit Go.Deep
namespace SX
/- S6 p: 186 objects of 186 -/
def S6v : SV := (.tup [(q 119), (j 0)])
def S6n : Nat := 1661
def S6h0 (h : Heap) : Heap :=
  (1660, .it 98) ::
  (1659, .cells 24 [(j 0), (j 0), (.t []), (j 0)]) ::
  (1657, .vec 24 4 [(j 0), (j 0), (.t [108, 111, 111, 107]), (j 0), (j 0), (j 0), (.t [114, 101, 112, 97, 121]), (j 0), (j 0), (j 0), (.t [116, 97, 107, 101]), (j 0), (j 0), (j 0), (.t [108, 111, 99, 107]), (j 0), (j 0), (j 0), (.t [103, 114, 111, 119]), (j 0), (j 0), (j 0), (.t [108, 111, 111, 107]), (j 0)] (.o 1658 0)) ::
  (1656, .vec 24 4 [(j 0), (j 0), (.t [108, 111, 111, 107]), (j 0)] (.c 1)) ::
  (1654, .vec 3 1 [(j 0)] (.o 1655 0)) ::
  (1650, .vec 412 4 [] (.c 0)) ::
  (1641, .vec 56 1 [(u 1)] (.o 1642 0)) ::
  (1220, mpi .i64 [(1, (.t [108, 111, 111, 107])), (2, (.t [114, 101, 112, 97, 121])), (3, (.t [99, 108, 101, 97, 110])), (4, (.t [116, 97, 107, 101])), (5, (.t [107, 101, 101, 112])), (6, (.t [108, 111, 99, 107])), (7, (.t [103, 114, 111, 119])), (8, (.t [100, 111])), (9, (.t [115, 112, 101, 99, 105, 97, 108])), (10, (.t [110, 101, 120, 116])), (11, (.t [111, 110, 101])), (12, (.t [115, 116, 111, 112])), (13, (.t [119, 97, 105, 116])), (14, (.t [100, 114, 97, 105, 110])), (15, (.t [99, 108, 101, 97, 110])), (16, (.t [102, 108, 105, 112]))]) ::
  (1219, .it 98) ::
  (1217, .vec 3 1 [(j 0)] (.o 1218 0)) ::
  (1216, .vec 3 1 [(j 0)] (.c 1)) ::
  (1215, .cells 24 [(j 0), (j 0), (.t [108, 111, 111, 107]), (j 0)]) ::
  (1213, .gone) ::
  (1212, .vec 24 4 [(j 0), (j 0), (.t [103, 114, 111, 119]), (j 0)] (.c 1)) ::
  (1211, .cells 448 ((j 1) :: (rp_ 511 (j 0) []))) ::
  (1202, .vec 298 1 [(q 1200)] (.o 1203 0)) ::
  (1200, .cells 431 [(j 1), .tt, .np]) ::
  (1199, .cells 328 [(u 4194304), (j 1), (j 1), (j 5), .tt, (j 48), (j 170), (j 1), .ff, .ff, (.l .u32 89478486), (.sl true 1641 1 0 1 (.o 1642 0)), .ns, (j 1)]) ::
  (995, .vec 409 2 [(u 512), (u 513)] (.o 996 0)) ::
  (984, .vec 409 2 [] (.c 0)) ::
  (971, .vec 351 1 [(.m 957), (.m 961), (.m 965), (.m 969)] (.o 972 0)) ::
  (969, mpi .u64 []) ::
  (965, mpi .u64 []) ::
  (961, mpi .u64 []) ::
  (957, mpi .u64 []) ::
  (956, .vec 409 2 [] (.c 0)) ::
  (950, .vec 409 2 [(u 513), (u 1024)] (.o 951 0)) ::
  (939, .vec 409 2 [(u 513), (u 1024)] (.o 940 0)) ::
  (921, .vec 409 2 [(u 1), (u 2)] (.o 922 0)) ::
  (869, .vec 409 2 [(u 512), (u 1024)] (.o 870 0)) ::
  (855, .vec 409 2 [(u 512), (u 1024)] (.o 856 0)) ::
  (627, mpi .i64 [(1, (.t [108, 111, 111, 107])), (2, (.t [114, 101, 112, 97, 121])), (3, (.t [99, 108, 101, 97, 110])), (4, (.t [116, 97, 107, 101])), (5, (.t [107, 101, 101, 112])), (6, (.t [108, 111, 99, 107])), (7, (.t [103, 114, 111, 119])), (8, (.t [100, 111])), (9, (.t [115, 112, 101, 99, 105, 97, 108])), (10, (.t [110, 101, 120, 116])), (11, (.t [111, 110, 101])), (12, (.t [115, 116, 111, 112])), (13, (.t [119, 97, 105, 116])), (14, (.t [100, 114, 97, 105, 110])), (15, (.t [99, 108, 101, 97, 110])), (16, (.t [102, 108, 105, 112]))]) ::
  (626, .it 98) ::
  (624, .vec 3 1 [(j 0)] (.o 625 0)) ::
  (623, .vec 3 1 [(j 0)] (.c 1)) ::
  (622, .cells 24 [(j 0), (j 0), (.t [103, 114, 111, 119]), (j 0)]) ::
  (619, .vec 24 4 [(j 0), (j 0), (.t [108, 111, 99, 107]), (j 0)] (.c 1)) ::
  (610, mpi .i64 [(1, (.t [108, 111, 111, 107])), (2, (.t [114, 101, 112, 97, 121])), (3, (.t [99, 108, 101, 97, 110])), (4, (.t [116, 97, 107, 101])), (5, (.t [107, 101, 101, 112])), (6, (.t [108, 111, 99, 107])), (7, (.t [103, 114, 111, 119])), (8, (.t [100, 111])), (9, (.t [115, 112, 101, 99, 105, 97, 108])), (10, (.t [110, 101, 120, 116])), (11, (.t [111, 110, 101])), (12, (.t [115, 116, 111, 112])), (13, (.t [119, 97, 105, 116])), (14, (.t [100, 114, 97, 105, 110])), (15, (.t [99, 108, 101, 97, 110])), (16, (.t [102, 108, 105, 112]))]) ::
  (609, .it 98) ::
  (607, .vec 3 1 [(j 0)] (.o 608 0)) :: h
def S6h1 (h : Heap) : Heap :=
  (606, .vec 3 1 [(j 0)] (.c 1)) ::
  (605, .cells 24 [(j 0), (j 0), (.t [108, 111, 99, 107]), (j 0)]) ::
  (602, .vec 24 4 [(j 0), (j 0), (.t [116, 97, 107, 101]), (j 0)] (.c 1)) ::
  (592, mpi .i64 [(1, (.t [108, 111, 111, 107])), (2, (.t [114, 101, 112, 97, 121])), (3, (.t [99, 108, 101, 97, 110])), (4, (.t [116, 97, 107, 101])), (5, (.t [107, 101, 101, 112])), (6, (.t [108, 111, 99, 107])), (7, (.t [103, 114, 111, 119])), (8, (.t [100, 111])), (9, (.t [115, 112, 101, 99, 105, 97, 108])), (10, (.t [110, 101, 120, 116])), (11, (.t [111, 110, 101])), (12, (.t [115, 116, 111, 112])), (13, (.t [119, 97, 105, 116])), (14, (.t [100, 114, 97, 105, 110])), (15, (.t [99, 108, 101, 97, 110])), (16, (.t [102, 108, 105, 112]))]) ::
  (591, .it 98) ::
  (589, .vec 3 1 [(j 0)] (.o 590 0)) ::
  (588, .vec 3 1 [(j 0)] (.c 1)) ::
  (587, .cells 24 [(j 0), (j 0), (.t [116, 97, 107, 101]), (j 0)]) ::
  (584, .vec 24 4 [(j 0), (j 0), (.t [114, 101, 112, 97, 121]), (j 0)] (.c 1)) ::
  (576, mpi .i64 [(1, (.t [108, 111, 111, 107])), (2, (.t [114, 101, 112, 97, 121])), (3, (.t [99, 108, 101, 97, 110])), (4, (.t [116, 97, 107, 101])), (5, (.t [107, 101, 101, 112])), (6, (.t [108, 111, 99, 107])), (7, (.t [103, 114, 111, 119])), (8, (.t [100, 111])), (9, (.t [115, 112, 101, 99, 105, 97, 108])), (10, (.t [110, 101, 120, 116])), (11, (.t [111, 110, 101])), (12, (.t [115, 116, 111, 112])), (13, (.t [119, 97, 105, 116])), (14, (.t [100, 114, 97, 105, 110])), (15, (.t [99, 108, 101, 97, 110])), (16, (.t [102, 108, 105, 112]))]) ::
  (575, .it 98) ::
  (573, .vec 3 1 [(j 0)] (.o 574 0)) ::
  (572, .vec 3 1 [(j 0)] (.c 1)) ::
  (571, .cells 24 [(j 0), (j 0), (.t [114, 101, 112, 97, 121]), (j 0)]) ::
  (568, .vec 24 4 [(j 0), (j 0), (.t [108, 111, 111, 107]), (j 0)] (.c 1)) ::
  (146, mpi .i64 [(1, (.t [108, 111, 111, 107])), (2, (.t [114, 101, 112, 97, 121])), (3, (.t [99, 108, 101, 97, 110])), (4, (.t [116, 97, 107, 101])), (5, (.t [107, 101, 101, 112])), (6, (.t [108, 111, 99, 107])), (7, (.t [103, 114, 111, 119])), (8, (.t [100, 111])), (9, (.t [115, 112, 101, 99, 105, 97, 108])), (10, (.t [110, 101, 120, 116])), (11, (.t [111, 110, 101])), (12, (.t [115, 116, 111, 112])), (13, (.t [119, 97, 105, 116])), (14, (.t [100, 114, 97, 105, 110])), (15, (.t [99, 108, 101, 97, 110])), (16, (.t [102, 108, 105, 112]))]) ::
  (145, .it 98) ::
  (143, .vec 3 1 [(j 0)] (.o 144 0)) ::
  (142, .vec 3 1 [(j 0)] (.c 1)) ::
  (141, .cells 24 [(j 0), (j 0), (.t [108, 111, 111, 107]), (j 0)]) ::
  (139, .vec 3 1 [(j 0)] (.o 140 0)) ::
  (138, .vec 3 1 [(j 0)] (.c 1)) ::
  (136, .vec 125 1 [(q 134)] (.o 137 0)) ::
  (135, .vec 125 1 [(q 134)] (.c 1)) ::
  (134, .cells 129 [(j 1), (j 0), (u 40), (u 0), (j 0), (u 0), .ff, (j 0), .ns, .ns, (u 4194304), (u 48), (j 0), .tt]) ::
  (133, .cells 62 [(j 1), (j 0), (u 40), (u 0), (j 0), (u 0), .ff, (j 0), .ns, .ns]) ::
  (132, .cells 62 [(j 1), (j 0), (u 40), (u 0), (j 0), (u 0), .ff, (j 0), .ns, .ns]) ::
  (130, .vec 118 1 [(q 120), (q 124), (q 128)] (.o 131 0)) ::
  (129, .vec 118 1 [(q 128)] (.c 1)) ::
  (128, .cells 122 ((j 2) :: (rp_ 4 (j 0) [.ff, .ff, (u 0), (u 0)]))) ::
  (125, .vec 118 1 [(q 124)] (.c 1)) ::
  (124, .cells 122 ((j 1) :: (rp_ 4 (j 0) [.ff, .ff, (u 0), (u 0)]))) ::
  (121, .vec 118 1 [(q 120)] (.c 1)) ::
  (120, .cells 122 (rp_ 4 (j 0) [(j 5), .tt, .ff, (u 1), (u 0)])) ::
  (119, .cells 117 [(q 103), (q 116), (.sl true 130 1 0 3 (.o 131 0)), (.sl true 117 1 0 1 (.c 1)), (.sl true 136 1 0 1 (.o 137 0)), (.sl true 1654 1 0 1 (.o 1655 0)), (.l .i64 (-1)), (.l .i64 (-1)), .ff, .ff, (.m 118)]) ::
  (118, mpi .i64 [(1, (.fn 85 [])), (2, (.fn 86 [])), (3, (.fn 87 [])), (4, (.fn 88 [])), (5, (.fn 89 [])), (6, (.fn 90 [])), (7, (.fn 91 [])), (8, (.fn 92 [])), (9, (.fn 93 [])), (10, (.fn 94 [])), (11, (.fn 95 [])), (12, (.fn 96 [])), (13, (.fn 97 [])), (14, (.fn 98 [])), (15, (.fn 99 [])), (16, (.fn 100 []))]) ::
  (117, .vec 68 1 [(.sl true 139 1 1 0 (.o 140 1))] (.c 1)) ::
  (116, .cells 168 [(q 30), (u 4607632778762754458)]) ::
  (114, .vec 165 1 [(q 112)] (.o 115 0)) ::
  (113, .vec 165 1 [(q 112)] (.c 1)) :: h
def S6h2 (h : Heap) : Heap :=
  (112, .cells 247 ((q 111) :: (rp_ 12 (j 0) ((j 1) :: (rp_ 124 (j 0) [(u 0), (j 0)]))))) ::
  (111, .cells 242 [(q 104)]) ::
  (110, mpi .i64 []) ::
  (109, mpi .i64 []) ::
  (108, mpi .i64 []) ::
  (107, mpi .i64 []) ::
  (106, .cells 240 ((q 30) :: (rp_ 256 .ns [(.m 107), (.m 108), (.m 109), (.m 110), (.m 105)]))) ::
  (105, mpi .u64 []) ::
  (104, .cells 234 [(q 30), (q 99), (q 100), .ns, (u 0), (u 0), (u 8192), (u 0)]) ::
  (103, .cells 109 [(q 30), (q 99), (q 100), (q 104), (.sl true 114 1 0 1 (.o 115 0)), (q 106), (.m 101), (q 102), (j 100), .ff, (u 1), (u 0)]) ::
  (102, .cells 231 [(.sl true 1650 4 0 0 (.zr))]) ::
  (101, mpi .i64 []) ::
  (100, .cells 228 [.np, (j 0)]) ::
  (99, .cells 225 [(.m 96), (.m 97), (.m 98)]) ::
  (98, .mp .non []) ::
  (97, mpi .u64 []) ::
  (96, mpi .i64 []) ::
  (95, .cells 302 [(u 0), (u 0), (u 0)]) ::
  (94, .cells 302 [(u 0), (u 0), (u 0)]) ::
  (93, .cells 302 [(u 0), (u 0), (u 0)]) ::
  (92, .cells 302 [(u 0), (u 0), (u 0)]) ::
  (91, .cells 302 [(u 0), (u 0), (u 0)]) ::
  (90, .cells 302 [(u 0), (u 0), (u 0)]) ::
  (89, .cells 302 [(u 0), (u 0), (u 0)]) ::
  (88, .cells 302 [(u 0), (u 0), (u 0)]) ::
  (87, .cells 302 [(u 0), (u 0), (u 0)]) ::
  (86, .cells 302 [(u 0), (u 0), (u 0)]) ::
  (85, .cells 302 [(u 0), (u 0), (u 0)]) ::
  (84, .cells 302 [(u 0), (u 0), (u 0)]) ::
  (83, .cells 302 [(u 0), (u 0), (u 0)]) ::
  (82, .cells 302 [(u 0), (u 0), (u 0)]) ::
  (81, .cells 302 [(u 0), (u 0), (u 0)]) ::
  (80, .cells 302 [(u 0), (u 0), (u 0)]) ::
  (79, .cells 302 [(u 0), (u 0), (u 0)]) ::
  (78, .cells 302 [(u 0), (u 0), (u 0)]) ::
  (77, .cells 302 [(u 0), (u 0), (u 0)]) ::
  (76, .cells 302 [(u 0), (u 0), (u 0)]) ::
  (75, .cells 302 [(u 0), (u 0), (u 0)]) ::
  (74, .cells 302 [(u 0), (u 0), (u 0)]) ::
  (73, .cells 302 [(u 0), (u 0), (u 0)]) :: h
def S6h3 (h : Heap) : Heap :=
  (72, .cells 302 [(u 0), (u 0), (u 0)]) ::
  (71, .cells 302 [(u 0), (u 0), (u 0)]) ::
  (70, .cells 302 [(u 0), (u 0), (u 0)]) ::
  (69, .cells 302 [(u 0), (u 0), (u 0)]) ::
  (68, .cells 302 [(u 0), (u 0), (u 0)]) ::
  (67, .cells 302 [(u 0), (u 0), (u 0)]) ::
  (66, .cells 302 [(u 0), (u 0), (u 0)]) ::
  (65, .cells 302 [(u 0), (u 0), (u 0)]) ::
  (64, .cells 302 [(u 0), (u 0), (u 0)]) ::
  (63, .cells 302 [(u 0), (u 0), (u 0)]) ::
  (62, .cells 302 [(u 0), (u 0), (u 0)]) ::
  (61, .cells 302 [(u 0), (u 0), (u 0)]) ::
  (60, .cells 302 [(u 0), (u 0), (u 0)]) ::
  (59, .cells 302 [(u 0), (u 0), (u 0)]) ::
  (58, .cells 302 [(u 0), (u 0), (u 0)]) ::
  (57, .cells 302 [(u 0), (u 0), (u 0)]) ::
  (56, .cells 302 [(u 0), (u 0), (u 0)]) ::
  (55, .cells 302 [(u 0), (u 0), (u 0)]) ::
  (54, .cells 302 [(u 0), (u 0), (u 0)]) ::
  (53, .cells 302 [(u 0), (u 0), (u 0)]) ::
  (52, .cells 302 [(u 0), (u 0), (u 0)]) ::
  (51, .cells 302 [(u 0), (u 0), (u 0)]) ::
  (50, .cells 302 [(u 0), (u 0), (u 0)]) ::
  (49, .cells 302 [(u 0), (u 0), (u 0)]) ::
  (48, .cells 302 [(u 0), (u 0), (u 0)]) ::
  (47, .cells 302 [(u 0), (u 0), (u 0)]) ::
  (46, .cells 302 [(u 0), (u 0), (u 0)]) ::
  (45, .cells 302 [(u 0), (u 0), (u 0)]) ::
  (44, .cells 302 [(u 0), (u 0), (u 0)]) ::
  (43, .cells 302 [(u 0), (u 0), (u 0)]) ::
  (42, .cells 302 [(u 0), (u 0), (u 0)]) ::
  (41, .cells 302 [(u 0), (u 0), (u 0)]) ::
  (40, .cells 302 [(u 0), (u 0), (u 0)]) ::
  (39, .cells 302 [(u 0), (u 0), (u 0)]) ::
  (38, .cells 302 [(u 0), (u 0), (u 0)]) ::
  (37, .cells 302 [(u 0), (u 0), (u 0)]) ::
  (36, .cells 302 [(u 0), (u 0), (u 0)]) ::
  (35, .cells 302 [(u 0), (u 0), (u 0)]) ::
  (34, .cells 302 [(u 0), (u 0), (u 0)]) ::
  (33, .cells 302 [(u 0), (u 0), (u 0)]) :: h
def S6h4 (h : Heap) : Heap :=
  (32, .cells 302 [(u 0), (u 0), (u 0)]) ::
  (31, .cells 300 [(j 1), (.sl true 1202 1 0 1 (.o 1203 0)), .np, (j 1)]) ::
  (30, .cells 210 [(q 9), (q 10), (q 28), (q 31), (.m 29), (q 32), (q 33), (q 34), (q 35), (q 36), (q 37), (q 38), (q 39), (q 40), (q 41), (q 42), (q 43), (q 44), (q 45), (q 46), (q 47), (q 48), (q 49), (q 50), (q 51), (q 52), (q 53), (q 54), (q 55), (q 56), (q 57), (q 58), (q 59), (q 60), (q 61), (q 62), (q 63), (q 64), (q 65), (q 66), (q 67), (q 68), (q 69), (q 70), (q 71), (q 72), (q 73), (q 74), (q 75), (q 76), (q 77), (q 78), (q 79), (q 80), (q 81), (q 82), (q 83), (q 84), (q 85), (q 86), (q 87), (q 88), (q 89), (q 90), (q 91), (q 92), (q 93), (q 94), (q 95), (u 1024), (u 1)]) ::
  (29, mpi .i64 [(1, (q 1199))]) ::
  (28, .cells 296 [(.sl true 921 2 0 1 (.o 922 0)), (u 1), .ns, (.m 27)]) ::
  (27, mpi .u64 [(1, (q 1211))]) ::
  (25, .vec 351 1 [(.m 11), (.m 15), (.m 19), (.m 23)] (.o 26 0)) ::
  (24, .vec 351 1 [(.m 23)] (.c 1)) ::
  (23, mpi .u64 []) ::
  (20, .vec 351 1 [(.m 19)] (.c 1)) ::
  (19, mpi .u64 []) ::
  (16, .vec 351 1 [(.m 15)] (.c 1)) ::
  (15, mpi .u64 []) ::
  (12, .vec 351 1 [(.m 11)] (.c 1)) ::
  (11, mpi .u64 []) ::
  (10, .cells 292 [(.sl true 869 2 0 1 (.o 870 0)), (u 512), (.sl true 939 2 0 1 (.o 940 0)), (u 511), (.sl true 950 2 0 1 (.o 951 0)), (u 511), (.sl true 956 2 0 0 (.zr)), (u 0), (.sl true 971 1 0 4 (.o 972 0))]) ::
  (9, .cells 220 [.ns, .ns, .ns, (.sl true 855 2 0 1 (.o 856 0)), (u 512), (.sl true 995 2 0 1 (.o 996 0)), (u 1), (.sl true 984 2 0 0 (.zr)), (u 0), (.m 7), (.m 8)]) ::
  (8, mpi .u64 []) ::
  (7, mpi .u64 []) ::
  (6, .cells 65 [.ns, .ns, .ns]) ::
  (5, .cells 65 [.ns, .ns, .ns]) ::
  (4, .cells 65 [.ns, .ns, .ns]) ::
  (3, .cells 67 [.ns, .ns, .ns, (j 1), (j 100), (.sl true 1 10 0 1 (.c 1))]) ::
  (2, .vec 3 1 (rp_ 7 (j 0) []) (.c 7)) ::
  (1, .vec 62 10 [(j 1), (j 0), (u 40), (u 0), (j 0), (u 0), .ff, (j 0), .ns, .ns] (.c 1)) ::
  (0, .big .z) :: h
def S6h : Heap := S6h0 (S6h1 (S6h2 (S6h3 (S6h4 []))))
end SX
end Go.Proofs.YtcemhpdhcmlhlaaGreatDoor

/-
  The step from state 6.
-/
namespace Go.Proofs.YtcemhpdhcmlhlaaGreatDoor
open Go.RowKit Go.Deep
namespace SX
/- R6 r: 185 objects of 189 -/
def R6v : SV := (.tup [(j 0), (j 22)])
def R6n : Nat := 1664
def R6h0 (h : Heap) : Heap :=
  (1660, .it 98) ::
  (1659, .cells 24 [(j 0), (j 0), (.t []), (j 0)]) ::
  (1657, .vec 24 4 [(j 0), (j 0), (.t [108, 111, 111, 107]), (j 0), (j 0), (j 0), (.t [114, 101, 112, 97, 121]), (j 0), (j 0), (j 0), (.t [116, 97, 107, 101]), (j 0), (j 0), (j 0), (.t [108, 111, 99, 107]), (j 0), (j 0), (j 0), (.t [103, 114, 111, 119]), (j 0), (j 0), (j 0), (.t [108, 111, 111, 107]), (j 0)] (.o 1658 0)) ::
  (1656, .vec 24 4 [(j 0), (j 0), (.t [108, 111, 111, 107]), (j 0)] (.c 1)) ::
  (1654, .vec 3 1 [(j 0)] (.o 1655 0)) ::
  (1650, .vec 412 4 [] (.c 0)) ::
  (1641, .vec 56 1 [(u 1)] (.o 1642 0)) ::
  (1220, mpi .i64 [(1, (.t [108, 111, 111, 107])), (2, (.t [114, 101, 112, 97, 121])), (3, (.t [99, 108, 101, 97, 110])), (4, (.t [116, 97, 107, 101])), (5, (.t [107, 101, 101, 112])), (6, (.t [108, 111, 99, 107])), (7, (.t [103, 114, 111, 119])), (8, (.t [100, 111])), (9, (.t [115, 112, 101, 99, 105, 97, 108])), (10, (.t [110, 101, 120, 116])), (11, (.t [111, 110, 101])), (12, (.t [115, 116, 111, 112])), (13, (.t [119, 97, 105, 116])), (14, (.t [100, 114, 97, 105, 110])), (15, (.t [99, 108, 101, 97, 110])), (16, (.t [102, 108, 105, 112]))]) ::
  (1219, .it 98) ::
  (1217, .vec 3 1 [(j 0)] (.o 1218 0)) ::
  (1216, .vec 3 1 [(j 0)] (.c 1)) ::
  (1215, .cells 24 [(j 0), (j 0), (.t [108, 111, 111, 107]), (j 0)]) ::
  (1212, .vec 24 4 [(j 0), (j 0), (.t [103, 114, 111, 119]), (j 0)] (.c 1)) ::
  (1211, .cells 448 ((j 1) :: (rp_ 511 (j 0) []))) ::
  (1202, .vec 298 1 [(q 1200)] (.o 1203 0)) ::
  (1200, .cells 431 [(j 1), .tt, .np]) ::
  (1199, .cells 328 [(u 4194304), (j 1), (j 1), (j 5), .tt, (j 48), (j 170), (j 1), .ff, .ff, (.l .u32 89478486), (.sl true 1641 1 0 1 (.o 1642 0)), .ns, (j 1)]) ::
  (995, .vec 409 2 [(u 512), (u 513)] (.o 996 0)) ::
  (984, .vec 409 2 [] (.c 0)) ::
  (971, .vec 351 1 [(.m 957), (.m 961), (.m 965), (.m 969)] (.o 972 0)) ::
  (969, mpi .u64 []) ::
  (965, mpi .u64 []) ::
  (961, mpi .u64 []) ::
  (957, mpi .u64 []) ::
  (956, .vec 409 2 [] (.c 0)) ::
  (950, .vec 409 2 [(u 513), (u 1024)] (.o 951 0)) ::
  (939, .vec 409 2 [(u 513), (u 1024)] (.o 940 0)) ::
  (921, .vec 409 2 [(u 1), (u 2)] (.o 922 0)) ::
  (869, .vec 409 2 [(u 512), (u 1024)] (.o 870 0)) ::
  (855, .vec 409 2 [(u 512), (u 1024)] (.o 856 0)) ::
  (627, mpi .i64 [(1, (.t [108, 111, 111, 107])), (2, (.t [114, 101, 112, 97, 121])), (3, (.t [99, 108, 101, 97, 110])), (4, (.t [116, 97, 107, 101])), (5, (.t [107, 101, 101, 112])), (6, (.t [108, 111, 99, 107])), (7, (.t [103, 114, 111, 119])), (8, (.t [100, 111])), (9, (.t [115, 112, 101, 99, 105, 97, 108])), (10, (.t [110, 101, 120, 116])), (11, (.t [111, 110, 101])), (12, (.t [115, 116, 111, 112])), (13, (.t [119, 97, 105, 116])), (14, (.t [100, 114, 97, 105, 110])), (15, (.t [99, 108, 101, 97, 110])), (16, (.t [102, 108, 105, 112]))]) ::
  (626, .it 98) ::
  (624, .vec 3 1 [(j 0)] (.o 625 0)) ::
  (623, .vec 3 1 [(j 0)] (.c 1)) ::
  (622, .cells 24 [(j 0), (j 0), (.t [103, 114, 111, 119]), (j 0)]) ::
  (619, .vec 24 4 [(j 0), (j 0), (.t [108, 111, 99, 107]), (j 0)] (.c 1)) ::
  (610, mpi .i64 [(1, (.t [108, 111, 111, 107])), (2, (.t [114, 101, 112, 97, 121])), (3, (.t [99, 108, 101, 97, 110])), (4, (.t [116, 97, 107, 101])), (5, (.t [107, 101, 101, 112])), (6, (.t [108, 111, 99, 107])), (7, (.t [103, 114, 111, 119])), (8, (.t [100, 111])), (9, (.t [115, 112, 101, 99, 105, 97, 108])), (10, (.t [110, 101, 120, 116])), (11, (.t [111, 110, 101])), (12, (.t [115, 116, 111, 112])), (13, (.t [119, 97, 105, 116])), (14, (.t [100, 114, 97, 105, 110])), (15, (.t [99, 108, 101, 97, 110])), (16, (.t [102, 108, 105, 112]))]) ::
  (609, .it 98) ::
  (607, .vec 3 1 [(j 0)] (.o 608 0)) ::
  (606, .vec 3 1 [(j 0)] (.c 1)) :: h
def R6h1 (h : Heap) : Heap :=
  (605, .cells 24 [(j 0), (j 0), (.t [108, 111, 99, 107]), (j 0)]) ::
  (602, .vec 24 4 [(j 0), (j 0), (.t [116, 97, 107, 101]), (j 0)] (.c 1)) ::
  (592, mpi .i64 [(1, (.t [108, 111, 111, 107])), (2, (.t [114, 101, 112, 97, 121])), (3, (.t [99, 108, 101, 97, 110])), (4, (.t [116, 97, 107, 101])), (5, (.t [107, 101, 101, 112])), (6, (.t [108, 111, 99, 107])), (7, (.t [103, 114, 111, 119])), (8, (.t [100, 111])), (9, (.t [115, 112, 101, 99, 105, 97, 108])), (10, (.t [110, 101, 120, 116])), (11, (.t [111, 110, 101])), (12, (.t [115, 116, 111, 112])), (13, (.t [119, 97, 105, 116])), (14, (.t [100, 114, 97, 105, 110])), (15, (.t [99, 108, 101, 97, 110])), (16, (.t [102, 108, 105, 112]))]) ::
  (591, .it 98) ::
  (589, .vec 3 1 [(j 0)] (.o 590 0)) ::
  (588, .vec 3 1 [(j 0)] (.c 1)) ::
  (587, .cells 24 [(j 0), (j 0), (.t [116, 97, 107, 101]), (j 0)]) ::
  (584, .vec 24 4 [(j 0), (j 0), (.t [114, 101, 112, 97, 121]), (j 0)] (.c 1)) ::
  (576, mpi .i64 [(1, (.t [108, 111, 111, 107])), (2, (.t [114, 101, 112, 97, 121])), (3, (.t [99, 108, 101, 97, 110])), (4, (.t [116, 97, 107, 101])), (5, (.t [107, 101, 101, 112])), (6, (.t [108, 111, 99, 107])), (7, (.t [103, 114, 111, 119])), (8, (.t [100, 111])), (9, (.t [115, 112, 101, 99, 105, 97, 108])), (10, (.t [110, 101, 120, 116])), (11, (.t [111, 110, 101])), (12, (.t [115, 116, 111, 112])), (13, (.t [119, 97, 105, 116])), (14, (.t [100, 114, 97, 105, 110])), (15, (.t [99, 108, 101, 97, 110])), (16, (.t [102, 108, 105, 112]))]) ::
  (575, .it 98) ::
  (573, .vec 3 1 [(j 0)] (.o 574 0)) ::
  (572, .vec 3 1 [(j 0)] (.c 1)) ::
  (571, .cells 24 [(j 0), (j 0), (.t [114, 101, 112, 97, 121]), (j 0)]) ::
  (568, .vec 24 4 [(j 0), (j 0), (.t [108, 111, 111, 107]), (j 0)] (.c 1)) ::
  (146, mpi .i64 [(1, (.t [108, 111, 111, 107])), (2, (.t [114, 101, 112, 97, 121])), (3, (.t [99, 108, 101, 97, 110])), (4, (.t [116, 97, 107, 101])), (5, (.t [107, 101, 101, 112])), (6, (.t [108, 111, 99, 107])), (7, (.t [103, 114, 111, 119])), (8, (.t [100, 111])), (9, (.t [115, 112, 101, 99, 105, 97, 108])), (10, (.t [110, 101, 120, 116])), (11, (.t [111, 110, 101])), (12, (.t [115, 116, 111, 112])), (13, (.t [119, 97, 105, 116])), (14, (.t [100, 114, 97, 105, 110])), (15, (.t [99, 108, 101, 97, 110])), (16, (.t [102, 108, 105, 112]))]) ::
  (145, .it 98) ::
  (143, .vec 3 1 [(j 0)] (.o 144 0)) ::
  (142, .vec 3 1 [(j 0)] (.c 1)) ::
  (141, .cells 24 [(j 0), (j 0), (.t [108, 111, 111, 107]), (j 0)]) ::
  (139, .vec 3 1 [(j 0)] (.o 140 0)) ::
  (138, .vec 3 1 [(j 0)] (.c 1)) ::
  (136, .vec 125 1 [(q 134)] (.o 137 0)) ::
  (135, .vec 125 1 [(q 134)] (.c 1)) ::
  (134, .cells 129 [(j 1), (j 0), (u 40), (u 0), (j 0), (u 0), .ff, (j 0), .ns, .ns, (u 4194304), (u 48), (j 0), .tt]) ::
  (133, .cells 62 [(j 1), (j 0), (u 40), (u 0), (j 0), (u 0), .ff, (j 0), .ns, .ns]) ::
  (132, .cells 62 [(j 1), (j 0), (u 40), (u 0), (j 0), (u 0), .ff, (j 0), .ns, .ns]) ::
  (130, .vec 118 1 [(q 120), (q 124), (q 128)] (.o 131 0)) ::
  (129, .vec 118 1 [(q 128)] (.c 1)) ::
  (128, .cells 122 ((j 2) :: (rp_ 4 (j 0) [.ff, .ff, (u 0), (u 0)]))) ::
  (125, .vec 118 1 [(q 124)] (.c 1)) ::
  (124, .cells 122 ((j 1) :: (rp_ 4 (j 0) [.ff, .ff, (u 0), (u 0)]))) ::
  (121, .vec 118 1 [(q 120)] (.c 1)) ::
  (120, .cells 122 (rp_ 4 (j 0) [(j 5), .tt, .ff, (u 1), (u 0)])) ::
  (119, .cells 117 [(q 103), (q 116), (.sl true 130 1 0 3 (.o 131 0)), (.sl true 117 1 0 1 (.c 1)), (.sl true 136 1 0 1 (.o 137 0)), (.sl true 1654 1 0 1 (.o 1655 0)), (.l .i64 (-1)), (.l .i64 (-1)), .ff, .ff, (.m 118)]) ::
  (118, mpi .i64 [(1, (.fn 85 [])), (2, (.fn 86 [])), (3, (.fn 87 [])), (4, (.fn 88 [])), (5, (.fn 89 [])), (6, (.fn 90 [])), (7, (.fn 91 [])), (8, (.fn 92 [])), (9, (.fn 93 [])), (10, (.fn 94 [])), (11, (.fn 95 [])), (12, (.fn 96 [])), (13, (.fn 97 [])), (14, (.fn 98 [])), (15, (.fn 99 [])), (16, (.fn 100 []))]) ::
  (117, .vec 68 1 [(.sl true 139 1 1 0 (.o 140 1))] (.c 1)) ::
  (116, .cells 168 [(q 30), (u 4607632778762754458)]) ::
  (114, .vec 165 1 [(q 112)] (.o 115 0)) ::
  (113, .vec 165 1 [(q 112)] (.c 1)) ::
  (112, .cells 247 ((q 111) :: (rp_ 12 (j 0) ((j 1) :: (rp_ 124 (j 0) [(u 0), (j 0)]))))) :: h
def R6h2 (h : Heap) : Heap :=
  (111, .cells 242 [(q 104)]) ::
  (110, mpi .i64 []) ::
  (109, mpi .i64 []) ::
  (108, mpi .i64 []) ::
  (107, mpi .i64 []) ::
  (106, .cells 240 ((q 30) :: (rp_ 256 .ns [(.m 107), (.m 108), (.m 109), (.m 110), (.m 105)]))) ::
  (105, mpi .u64 []) ::
  (104, .cells 234 [(q 30), (q 99), (q 100), .ns, (u 0), (u 0), (u 8192), (u 0)]) ::
  (103, .cells 109 [(q 30), (q 99), (q 100), (q 104), (.sl true 114 1 0 1 (.o 115 0)), (q 106), (.m 101), (q 102), (j 100), .ff, (u 1), (u 0)]) ::
  (102, .cells 231 [(.sl true 1650 4 0 0 (.zr))]) ::
  (101, mpi .i64 []) ::
  (100, .cells 228 [.np, (j 0)]) ::
  (99, .cells 225 [(.m 96), (.m 97), (.m 98)]) ::
  (98, .mp .non []) ::
  (97, mpi .u64 []) ::
  (96, mpi .i64 []) ::
  (95, .cells 302 [(u 0), (u 0), (u 0)]) ::
  (94, .cells 302 [(u 0), (u 0), (u 0)]) ::
  (93, .cells 302 [(u 0), (u 0), (u 0)]) ::
  (92, .cells 302 [(u 0), (u 0), (u 0)]) ::
  (91, .cells 302 [(u 0), (u 0), (u 0)]) ::
  (90, .cells 302 [(u 0), (u 0), (u 0)]) ::
  (89, .cells 302 [(u 0), (u 0), (u 0)]) ::
  (88, .cells 302 [(u 0), (u 0), (u 0)]) ::
  (87, .cells 302 [(u 0), (u 0), (u 0)]) ::
  (86, .cells 302 [(u 0), (u 0), (u 0)]) ::
  (85, .cells 302 [(u 0), (u 0), (u 0)]) ::
  (84, .cells 302 [(u 0), (u 0), (u 0)]) ::
  (83, .cells 302 [(u 0), (u 0), (u 0)]) ::
  (82, .cells 302 [(u 0), (u 0), (u 0)]) ::
  (81, .cells 302 [(u 0), (u 0), (u 0)]) ::
  (80, .cells 302 [(u 0), (u 0), (u 0)]) ::
  (79, .cells 302 [(u 0), (u 0), (u 0)]) ::
  (78, .cells 302 [(u 0), (u 0), (u 0)]) ::
  (77, .cells 302 [(u 0), (u 0), (u 0)]) ::
  (76, .cells 302 [(u 0), (u 0), (u 0)]) ::
  (75, .cells 302 [(u 0), (u 0), (u 0)]) ::
  (74, .cells 302 [(u 0), (u 0), (u 0)]) ::
  (73, .cells 302 [(u 0), (u 0), (u 0)]) ::
  (72, .cells 302 [(u 0), (u 0), (u 0)]) :: h
def R6h3 (h : Heap) : Heap :=
  (71, .cells 302 [(u 0), (u 0), (u 0)]) ::
  (70, .cells 302 [(u 0), (u 0), (u 0)]) ::
  (69, .cells 302 [(u 0), (u 0), (u 0)]) ::
  (68, .cells 302 [(u 0), (u 0), (u 0)]) ::
  (67, .cells 302 [(u 0), (u 0), (u 0)]) ::
  (66, .cells 302 [(u 0), (u 0), (u 0)]) ::
  (65, .cells 302 [(u 0), (u 0), (u 0)]) ::
  (64, .cells 302 [(u 0), (u 0), (u 0)]) ::
  (63, .cells 302 [(u 0), (u 0), (u 0)]) ::
  (62, .cells 302 [(u 0), (u 0), (u 0)]) ::
  (61, .cells 302 [(u 0), (u 0), (u 0)]) ::
  (60, .cells 302 [(u 0), (u 0), (u 0)]) ::
  (59, .cells 302 [(u 0), (u 0), (u 0)]) ::
  (58, .cells 302 [(u 0), (u 0), (u 0)]) ::
  (57, .cells 302 [(u 0), (u 0), (u 0)]) ::
  (56, .cells 302 [(u 0), (u 0), (u 0)]) ::
  (55, .cells 302 [(u 0), (u 0), (u 0)]) ::
  (54, .cells 302 [(u 0), (u 0), (u 0)]) ::
  (53, .cells 302 [(u 0), (u 0), (u 0)]) ::
  (52, .cells 302 [(u 0), (u 0), (u 0)]) ::
  (51, .cells 302 [(u 0), (u 0), (u 0)]) ::
  (50, .cells 302 [(u 0), (u 0), (u 0)]) ::
  (49, .cells 302 [(u 0), (u 0), (u 0)]) ::
  (48, .cells 302 [(u 0), (u 0), (u 0)]) ::
  (47, .cells 302 [(u 0), (u 0), (u 0)]) ::
  (46, .cells 302 [(u 0), (u 0), (u 0)]) ::
  (45, .cells 302 [(u 0), (u 0), (u 0)]) ::
  (44, .cells 302 [(u 0), (u 0), (u 0)]) ::
  (43, .cells 302 [(u 0), (u 0), (u 0)]) ::
  (42, .cells 302 [(u 0), (u 0), (u 0)]) ::
  (41, .cells 302 [(u 0), (u 0), (u 0)]) ::
  (40, .cells 302 [(u 0), (u 0), (u 0)]) ::
  (39, .cells 302 [(u 0), (u 0), (u 0)]) ::
  (38, .cells 302 [(u 0), (u 0), (u 0)]) ::
  (37, .cells 302 [(u 0), (u 0), (u 0)]) ::
  (36, .cells 302 [(u 0), (u 0), (u 0)]) ::
  (35, .cells 302 [(u 0), (u 0), (u 0)]) ::
  (34, .cells 302 [(u 0), (u 0), (u 0)]) ::
  (33, .cells 302 [(u 0), (u 0), (u 0)]) ::
  (32, .cells 302 [(u 0), (u 0), (u 0)]) :: h
def R6h4 (h : Heap) : Heap :=
  (31, .cells 300 [(j 1), (.sl true 1202 1 0 1 (.o 1203 0)), .np, (j 1)]) ::
  (30, .cells 210 [(q 9), (q 10), (q 28), (q 31), (.m 29), (q 32), (q 33), (q 34), (q 35), (q 36), (q 37), (q 38), (q 39), (q 40), (q 41), (q 42), (q 43), (q 44), (q 45), (q 46), (q 47), (q 48), (q 49), (q 50), (q 51), (q 52), (q 53), (q 54), (q 55), (q 56), (q 57), (q 58), (q 59), (q 60), (q 61), (q 62), (q 63), (q 64), (q 65), (q 66), (q 67), (q 68), (q 69), (q 70), (q 71), (q 72), (q 73), (q 74), (q 75), (q 76), (q 77), (q 78), (q 79), (q 80), (q 81), (q 82), (q 83), (q 84), (q 85), (q 86), (q 87), (q 88), (q 89), (q 90), (q 91), (q 92), (q 93), (q 94), (q 95), (u 1024), (u 1)]) ::
  (29, mpi .i64 [(1, (q 1199))]) ::
  (28, .cells 296 [(.sl true 921 2 0 1 (.o 922 0)), (u 1), .ns, (.m 27)]) ::
  (27, mpi .u64 [(1, (q 1211))]) ::
  (25, .vec 351 1 [(.m 11), (.m 15), (.m 19), (.m 23)] (.o 26 0)) ::
  (24, .vec 351 1 [(.m 23)] (.c 1)) ::
  (23, mpi .u64 []) ::
  (20, .vec 351 1 [(.m 19)] (.c 1)) ::
  (19, mpi .u64 []) ::
  (16, .vec 351 1 [(.m 15)] (.c 1)) ::
  (15, mpi .u64 []) ::
  (12, .vec 351 1 [(.m 11)] (.c 1)) ::
  (11, mpi .u64 []) ::
  (10, .cells 292 [(.sl true 869 2 0 1 (.o 870 0)), (u 512), (.sl true 939 2 0 1 (.o 940 0)), (u 511), (.sl true 950 2 0 1 (.o 951 0)), (u 511), (.sl true 956 2 0 0 (.zr)), (u 0), (.sl true 971 1 0 4 (.o 972 0))]) ::
  (9, .cells 220 [.ns, .ns, .ns, (.sl true 855 2 0 1 (.o 856 0)), (u 512), (.sl true 995 2 0 1 (.o 996 0)), (u 1), (.sl true 984 2 0 0 (.zr)), (u 0), (.m 7), (.m 8)]) ::
  (8, mpi .u64 []) ::
  (7, mpi .u64 []) ::
  (6, .cells 65 [.ns, .ns, .ns]) ::
  (5, .cells 65 [.ns, .ns, .ns]) ::
  (4, .cells 65 [.ns, .ns, .ns]) ::
  (3, .cells 67 [.ns, .ns, .ns, (j 1), (j 100), (.sl true 1 10 0 1 (.c 1))]) ::
  (2, .vec 3 1 (rp_ 7 (j 0) []) (.c 7)) ::
  (1, .vec 62 10 [(j 1), (j 0), (u 40), (u 0), (j 0), (u 0), .ff, (j 0), .ns, .ns] (.c 1)) ::
  (0, .big .z) :: h
def R6h : Heap := R6h0 (R6h1 (R6h2 (R6h3 (R6h4 []))))

set_option maxRecDepth 100000 in
theorem go6_sure : (runP Tryz.prog wt1 37 Tryz.f37 (tupL S6v) S6h S6n tellK).sure (isRes R6v R6h R6n) = true := by kernel_rfl
theorem go6_ok (𝔅 : BigRep) : SpecEnters Tryz.prog 𝔅 37 (atSpec (tupL S6v) S6h S6n R6v R6h R6n) := at_ok (runP_ok fit (wt1_ok 𝔅) Tryz.func37 (by kernel_rfl)) go6_sure
end SX
end Go.Proofs.YtcemhpdhcmlhlaaGreatDoor

/-
  mallowlaw28.awake: it answers true. No condition but the library's tables.
-/
namespace Go.Proofs.YtcemhpdhcmlhlaaGreatDoor
open Go.RowKit Go.Deep Go.Shelf
namespace SX

/-- the first of awake's events -/
def ev0 : Ev := ⟨0, 0, [108, 111, 111, 107], 0⟩
def ev0L : List SV := [j 0, j 0, .t [108, 111, 111, 107], j 0]
noncomputable def spPrint : Spec := fun args h n K => match args with
  | [x] => (match x with
    | .sl _ b sz frm m _ => if big0 h && (Nat.beq m 1 && (Nat.beq sz 4 && Nat.beq frm 0)) then (match h.get b with
      | some o => (match o with
        | .vec _ _ cs _ => if beqL (cs.take 4) ev0L then K true (.tup [.t [48, 32, 48, 32, 108, 111, 111, 107, 32, 48, 10], .l .i64 0]) h n else .fail 720
        | _ => .fail 723)
      | none => .fail 724) else .fail 725
    | _ => .fail 721)
  | _ => .fail 722
theorem ev0_line : ev0.line = [48, 32, 48, 32, 108, 111, 111, 107, 32, 48, 10] := by
  have h : Lib.itoa 0 = [48] := by decide +kernel
  unfold Ev.line ev0
  simp only [h]
  rfl
theorem ev0_print : printV [ev0] = .tuple #[str [48, 32, 48, 32, 108, 111, 111, 107, 32, 48, 10], .int .i64 0] := by
  unfold printV
  rw [if_pos (by decide), List.flatMap_cons, List.flatMap_nil, List.append_nil, ev0_line]
theorem ev0_rd {C : Ctx} {ρ : Ren} {h : Heap} {w : World} (H : Holds C ρ h w) {lit : Bool} {b : Nat} {cp : Cap} {v : Value} (hx : (SV.sl lit b 4 0 1 cp).Rel ρ v) {t : TypeId} {sz : Nat} {cs : List SV} {cap : Cap} (hg : h.get b = some (.vec t sz cs cap)) (hc : cs.take 4 = ev0L) :
    ∃ a c, v = .slice a 1 c ∧ Rd w 4 (.slice a 1 c) 1 ([ev0].flatMap Ev.cells) := by
  simp only [SV.Rel] at hx
  obtain ⟨a, c, rfl, hci, hle, had⟩ := hx
  obtain ⟨g, hg1, rfl⟩ := slB (f := fun g => ⟨g, 0 * 4, none⟩) hci had (by omega)
  obtain ⟨G, R', r, hp, _⟩ := H.focus hg
  obtain ⟨z, _, hl, _, r⟩ := r
  have h4 : 4 ≤ cs.length := by
    have := congrArg List.length hc
    rw [List.length_take] at this
    have h5 : ev0L.length = 4 := rfl
    omega
  rcases r with ⟨rfl, _⟩ | ⟨g', cc, hg2, rfl, _, hr⟩
  · rw [Nat.zero_mul] at hl; omega
  · rw [hg1] at hg2
    cases hg2
    have hb := hp.blk
    have hr4 := hr.take 4
    rw [hc, List.take_take, Nat.min_eq_left h4] at hr4
    have e : cc.toList.take 4 = ev0.cells := by
      have key : ∀ vs, RelL ρ ev0L vs → vs = ev0.cells := by
        intro vs hv
        simp only [ev0L, RelL, SV.Rel] at hv
        obtain ⟨v1, q1, rfl, rfl, v2, q2, rfl, rfl, v3, q3, rfl, rfl, v4, q4, rfl, rfl, rfl⟩ := hv
        rfl
      exact key _ hr4
    refine ⟨_, _, rfl, _, _, rfl, by omega, rfl, (fun e => by cases e), fun k u hu => ⟨_, rfl, ?_⟩⟩
    rw [add_plain', cell_blk hb]
    have hu' : ev0.cells[k]? = some u := by simpa using hu
    rw [← e, List.getElem?_take] at hu'
    split at hu'
    · simpa using hu'
    · cases hu'
theorem spPrint_ok {W : World} (hL : Laid W) : SpecEnters Tryz.prog (bigW W) 5 spPrint where
  enter := enter_of Tryz.func5 (bodyOf_eq (by kernel_rfl)) (by kernel_rfl)
  calls := by
    intro C Q args h n K hB hk ρ w vs hv hH hbd
    unfold spPrint at hk
    split at hk
    next x =>
      split at hk
      next lit b sz frm m cp =>
        split at hk
        next hb =>
          simp only [Bool.and_eq_true] at hb
          obtain ⟨hb, hm, hz, hf⟩ := hb
          have := Nat.eq_of_beq_eq_true hm
          subst this
          have := Nat.eq_of_beq_eq_true hz
          subst this
          have := Nat.eq_of_beq_eq_true hf
          subst this
          split at hk
          next o ho =>
            split at hk
            next t s2 cs cap =>
              split at hk
              next hcs =>
                obtain ⟨v, e1, hx⟩ := hv.one
                have hw : Laid w := hL.at fun i o hi => hH.still hB hb hi
                obtain ⟨a, c, rfl, hrd⟩ := ev0_rd hH hx ho (beqL_eq _ _ hcs)
                have e2 : vs = #[.slice a 1 c] := by rw [← Array.toList_inj, e1]
                subst e2
                refine (print_h w a c [ev0] hrd (by intro x hx; simp only [List.mem_singleton] at hx; subst hx; exact ⟨⟨by decide, by decide⟩, ⟨by decide, by decide⟩, ⟨by decide, by decide⟩⟩) (by decide) hw).mono ?_
                rw [ev0_print]
                rintro e w' ⟨rfl, hf⟩
                exact ⟨true, _, _, h, n, ρ, rfl, (by simp only [SV.Rel]; exact ⟨_, rfl, .cons (by simp only [SV.Rel]; rfl) (.cons (by simp only [SV.Rel]) .nil)⟩), hH.quiet hf, .refl _, hbd, hk⟩
              · exact hk.elim
            · exact hk.elim
          · exact hk.elim
        · exact hk.elim
      · exact hk.elim
    · exact hk.elim
/-- none -/
noncomputable def spNo : Spec := fun _ _ _ _ => .fail 730
theorem spNo_ok {P : Program} {𝔅 : BigRep} {f : FuncId} (h : ∀ w args, (callFunc f args).run P w = .ok (.enter f args) w) : SpecEnters P 𝔅 f spNo := ⟨h, fun _ _ _ _ _ _ _ hk => hk.elim⟩
noncomputable def goT : Spec := byN S0n (atSpec (tupL S0v) S0h S0n R0v R0h R0n) (byN S1n (atSpec (tupL S1v) S1h S1n R1v R1h R1n) (byN S2n (atSpec (tupL S2v) S2h S2n R2v R2h R2n) (byN S3n (atSpec (tupL S3v) S3h S3n R3v R3h R3n) (byN S4n (atSpec (tupL S4v) S4h S4n R4v R4h R4n) (byN S5n (atSpec (tupL S5v) S5h S5n R5v R5h R5n) (byN S6n (atSpec (tupL S6v) S6h S6n R6v R6h R6n) spNo))))))
theorem goT_ok (𝔅 : BigRep) : SpecEnters Tryz.prog 𝔅 37 goT :=
  byN_ok (go0_ok _) (byN_ok (go1_ok _) (byN_ok (go2_ok _) (byN_ok (go3_ok _) (byN_ok (go4_ok _) (byN_ok (go5_ok _) (byN_ok (go6_ok _) (spNo_ok (go0_ok 𝔅).enter)))))))
noncomputable def wtA : List (FuncId × Spec) := (5, spPrint) :: (37, goT) :: wt1
theorem wtA_ok {W : World} (hL : Laid W) : ∀ x ∈ wtA, SpecOk Tryz.prog (bigW W) x.1 x.2 := cons_ok (.inl (spPrint_ok hL)) (cons_ok (.inl (goT_ok _)) (wt1_ok _))
set_option maxRecDepth 100000 in
theorem awake_sure : (runP Tryz.prog wtA 10 Tryz.f10 [] heap0 1 tellK).sure (isRes .tt [(0, .big .z)] 1670) = true := by kernel_rfl
end SX
theorem awake_any (w : World) (hL : Laid w) : Calls Tryz.prog 10 #[] w fun e w' => e = .returned (.bool true) ∧ Fr (fun _ => False) w w' := by
  refine (SX.whole_sure (SX.runP_ok SX.fit (SX.wtA_ok hL) Tryz.func10 (by kernel_rfl)) (args := []) (vs := #[]) (by simp only [SX.RelL]) SX.awake_sure).mono ?_
  rintro e w' ⟨v, ρ', rfl, hv, hH⟩
  simp only [SX.SV.Rel] at hv
  exact ⟨by rw [hv], hH.frW rfl⟩
end Go.Proofs.YtcemhpdhcmlhlaaGreatDoor

/-
  mallowlaw28.TracePrints: it answers true. Condition: the library's tables lie; the events' numbers fit.
-/
namespace Go.Proofs.YtcemhpdhcmlhlaaGreatDoor
open Go.RowKit Go.Deep Go.Shelf

/-- what Parse answers, told of data alone -/
def PV (s : List UInt8) (M : List Ev) (code k : Int) : Prop :=
  (linesOf s = M.map Ev.line ∧ (∀ x ∈ M, x.right = true) ∧ code = 0 ∧ k = 0) ∨
  (M = [] ∧ ∃ (L : List Ev) (x : List UInt8), L.map Ev.line ++ [x] <+: linesOf s ∧ (∀ x ∈ L, x.right = true) ∧ (∀ y : Ev, y.right = true → y.line ≠ x) ∧ code = 60 ∧ k = L.length + 1)
theorem rd_nil {w : World} : Rd w 4 (.slice none 0 0) 0 [] := ⟨none, 0, rfl, Nat.le_refl _, rfl, fun _ => rfl, fun j u h => by simp at h⟩
theorem ParseIs.told {s : List UInt8} {B : Nat} {v : Value} {code k : Int} {W : World} (h : ParseIs s B v code k W) : ∃ (M : List Ev) (a : Option Addr) (c : Nat), v = .slice a M.length c ∧ Rd W 4 (.slice a M.length c) M.length (M.flatMap Ev.cells) ∧ PV s M code k ∧ M.length ≤ s.length := by
  rcases h with ⟨L, h1, h2, h3, h4, h5⟩ | ⟨L, x, h1, h2, h3, h4, h5, h6⟩
  · obtain ⟨a, c, e⟩ := ownsRow_form h5
    refine ⟨L, a, c, e, e ▸ ownsRow_rd h5, .inl ⟨h1, h2, h3, h4⟩, ?_⟩
    have := linesOf_len s
    rw [h1, List.length_map] at this
    exact this
  · exact ⟨[], none, 0, h4, rd_nil, .inr ⟨rfl, L, x, h1, h2, h3, h5, h6⟩, Nat.zero_le _⟩
theorem pre_at {L : List Ev} {x : List UInt8} {l : List (List UInt8)} (h : L.map Ev.line ++ [x] <+: l) : l[L.length]? = some x ∧ ∀ (j : Nat) (y : Ev), L[j]? = some y → l[j]? = some y.line := by
  obtain ⟨r, rfl⟩ := h
  refine ⟨by simp, fun j y hj => ?_⟩
  have := (List.getElem?_eq_some_iff.1 hj).1
  rw [List.getElem?_append_left (by simp; omega), List.getElem?_append_left (by simp; omega), List.getElem?_map, hj]; rfl
theorem PV.same {s : List UInt8} {M N : List Ev} {c c' k k' : Int} (h : PV s M c k) (h' : PV s N c' k') : M = N ∧ c = c' ∧ k = k' := by
  have no : ∀ {M L : List Ev} {x : List UInt8}, linesOf s = M.map Ev.line → (∀ x ∈ M, x.right = true) → L.map Ev.line ++ [x] <+: linesOf s → (∀ y : Ev, y.right = true → y.line ≠ x) → False := by
    intro M L x h1 h2 h3 h4
    have h5 := (pre_at h3).1
    rw [h1] at h5
    obtain ⟨y, hy, e⟩ := List.mem_map.1 (List.mem_of_getElem? h5)
    exact h4 y (h2 y hy) e
  rcases h with ⟨h1, h2, rfl, rfl⟩ | ⟨rfl, L, x, h1, h2, h3, rfl, rfl⟩ <;> rcases h' with ⟨g1, g2, rfl, rfl⟩ | ⟨rfl, L', x', g1, g2, g3, rfl, rfl⟩
  · exact ⟨lines_inj h2 g2 (h1.symm.trans g1), rfl, rfl⟩
  · exact (no h1 h2 g1 g3).elim
  · exact (no g1 g2 h1 h3).elim
  · refine ⟨rfl, rfl, ?_⟩
    have key : ∀ {L L' : List Ev} {x x' : List UInt8}, L.map Ev.line ++ [x] <+: linesOf s → (∀ y : Ev, y.right = true → y.line ≠ x) → L'.map Ev.line ++ [x'] <+: linesOf s → (∀ y ∈ L', y.right = true) → ¬ L.length < L'.length := by
      intro L L' x x' h1 h3 g1 g2 hlt
      have h4 := (pre_at h1).1
      have h5 := (pre_at g1).2 L.length _ (List.getElem?_eq_getElem hlt)
      rw [h4] at h5
      exact h3 _ (g2 _ (List.getElem_mem hlt)) (Option.some.inj h5).symm
    have a1 := key h1 h3 g1 g2
    have a2 := key g1 g3 h1 h2
    omega
theorem printV_form (L : List Ev) : ∃ (t : List UInt8) (c : Int), printV L = .tuple #[str t, .int .i64 c] := by
  unfold printV
  split
  · exact ⟨_, _, rfl⟩
  · exact ⟨_, _, rfl⟩
def E171 : Ev := ⟨171, 0, [], 0⟩
theorem rd_new {w : World} {t : TypeId} (x : Ev) : Rd (w.alloc (.cells x.cells.toArray t)) 4 (.slice (some ⟨w.heap.size, 0, none⟩) 1 1) 1 x.cells :=
  ⟨_, _, rfl, Nat.le_refl _, rfl, (fun h => by cases h), fun j u hu => ⟨_, rfl, news4 (t := t) (by rw [heap_alloc, if_pos rfl]) j u hu⟩⟩
theorem cells_one {L : List Ev} : ∀ u ∈ L.flatMap Ev.cells, u.oneCell' = true := by
  intro u hu
  obtain ⟨x, _, hx⟩ := List.mem_flatMap.1 hu
  simp only [Ev.cells, List.mem_cons, List.not_mem_nil, or_false] at hx
  rcases hx with rfl | rfl | rfl | rfl <;> rfl
theorem flat_cells (L : List Ev) : (L.flatMap Ev.cells).length = L.length * 4 := by
  induction L with
  | nil => rfl
  | cons x L ih => rw [List.flatMap_cons, List.length_append, ih, cells_len, List.length_cons]; omega

set_option maxRecDepth 100000 in
set_option maxHeartbeats 8000000 in
theorem prints_law (w : World) (a : Option Addr) (c : Nat) (L : List Ev) (s : List UInt8) (hrd : Rd w 4 (.slice a L.length c) L.length (L.flatMap Ev.cells)) (hwf : ∀ x ∈ L, x.wf) (hL : Laid w) :
    Calls Tryz.prog 3 #[.slice a L.length c, str s] w fun e w' => e = .returned (.bool true) ∧ Fr (fun _ => False) w w' := by
  by_cases h1 : (1000 : Int) < L.length
  · go_enter Tryz.func3, Tryz.ntmps3
    go_wp2
    go_ret
    exact ⟨rfl, Fr.refl _ _⟩
  by_cases h2 : (20000 : Int) < s.length
  · go_enter Tryz.func3, Tryz.ntmps3
    go_wp2
    go_ret
    exact ⟨rfl, Fr.refl _ _⟩
  have h3 : (L.length : Int) ≤ 1000 := by omega
  have h4 : (s.length : Int) ≤ 20000 := by omega
  obtain ⟨i0, hi, hz0, hz1, hz2⟩ := info_parts ev_info
  replace hi := Lib.hid hi
  replace hz0 := Lib.hid hz0
  replace hz1 := Lib.hid hz1
  replace hz2 := Lib.hid hz2
  have HR := Lib.hid hrd
  have HW := Lib.hid hwf
  have HL := Lib.hid hL
  have HF := Lib.hid (flat_cells L)
  clear hrd hwf hL h1 h2
  go_enter Tryz.func3, Tryz.ntmps3
  go_wp2_with (at_builtin; refine app_hold ?_)
  unfold AppHeld
  refine wpList_append_rd (w0 := w) (S := fun _ => False) rfl _ _ 22 rfl 24 i0 _ 4 40 Tryz.underlying22 hi.out hz0.out hz1.out hz2.out rfl (by decide) _ 0 [] rfl (ownsRow_empty (g := w.heap.size) 4 (by rw [heap_alloc, if_pos rfl]) (Nat.le_refl _)) ((Fr.refl _ w).alloc _) _ L.length _ rfl (HR.out.fr ((Fr.refl (fun _ => False) w).alloc _) (fun _ _ x => x)) cells_one (by unfold maxLen; omega) (by omega) ?_
  intro v1 w1 hown1 hfr1 _
  simp only [Nat.zero_add, List.nil_append] at hown1
  replace hown1 := Lib.hid hown1
  replace hfr1 := Lib.hid hfr1
  go_wp2_with (at_builtin; refine app_hold ?_)
  unfold AppHeld
  refine wpList_append_rd (w0 := w) (S := fun _ => False) rfl _ _ 22 rfl 24 i0 _ 4 40 Tryz.underlying22 hi.out hz0.out hz1.out hz2.out rfl (by decide) _ L.length (L.flatMap Ev.cells) rfl (ownsRow_fr hown1.out ((Fr.refl (fun _ => False) w1).alloc _) (fun _ x => x.elim)) (hfr1.out.alloc _) _ 1 E171.cells rfl (rd_new E171) (cells_one (L := [E171])) (by unfold maxLen; omega) (by omega) ?_
  intro v2 w2 hown2 hfr2 _
  obtain ⟨g, cap, hv, hcap, hgl⟩ : ∃ g cap, v2 = .slice (some ⟨g, 0, none⟩) (L.length + 1) cap ∧ L.length + 1 ≤ cap ∧ w2.cell? ⟨g, L.length * 4, none⟩ = some (.int .i64 171) := by
    rcases hown2.2 with ⟨_, e⟩ | ⟨g, cap, cur, e, _, hg, hn, _, _, ht⟩
    · omega
    · refine ⟨g, cap, e, hn, ?_⟩
      rw [cell_blk hg, ← Array.getElem?_toList]
      have h5 : (cur.toList.take ((L.length + 1) * 4))[L.length * 4]? = some (.int .i64 171) := by
        rw [ht, List.getElem?_append_right (by rw [HF.out]; exact Nat.le_refl _), HF.out, Nat.sub_self]; rfl
      rw [List.getElem?_take, if_pos (by omega)] at h5
      exact h5
  subst hv
  have hrd2 := Lib.hid (ownsRow_rd (ownsRow_prefix hown2 (k := L.length) (by omega)))
  rw [List.take_left' (by rw [HF.out])] at hrd2
  replace hfr2 := Lib.hid hfr2
  replace hgl := Lib.hid hgl
  have hc1 : (L.length : Int) ≤ cap := by omega
  have hc2 : (L.length : Int) + 1 ≤ cap := by omega
  clear hown2 hown1 hi hz0 hz1 hz2 HF
  obtain ⟨pt, pc, hpv⟩ := printV_form L
  have HP := Lib.hid (fun (W : World) (hW : Fr (fun _ => False) w2 W) => ((print_h W _ cap L (hrd2.out.fr hW (fun _ _ x => x)) HW.out (by omega) (HL.out.fr (hfr2.out.trans hW (fun _ _ x => x)))).mono (by
    rintro e w' ⟨rfl, h2⟩
    exact ⟨by rw [hpv], hW.trans h2 (fun _ _ x => x)⟩) : Calls Tryz.prog 5 #[.slice (some ⟨g, 0, none⟩) L.length cap] W fun e w' => e = .returned (.tuple #[str pt, .int .i64 pc]) ∧ Fr (fun _ => False) w2 w'))
  have HQ := Lib.hid (fun (W : World) (hW : Fr (fun _ => False) w2 W) => ((refPrint_h W a c L (HR.out.fr (hfr2.out.trans hW (fun _ _ x => x)) (fun _ _ x => x)) HW.out (by omega)).mono (by
    rintro e w' ⟨rfl, h2⟩
    exact ⟨by rw [hpv], hW.trans h2 (fun _ _ x => x)⟩) : Calls Tryz.prog 6 #[.slice a L.length c] W fun e w' => e = .returned (.tuple #[str pt, .int .i64 pc]) ∧ Fr (fun _ => False) w2 w'))
  have HS := Lib.hid (fun (W : World) (hW : Fr (fun _ => False) w2 W) => ((same_h W L _ a cap c (hrd2.out.fr hW (fun _ _ x => x)) (HR.out.fr (hfr2.out.trans hW (fun _ _ x => x)) (fun _ _ x => x)) (by omega)).mono (by
    rintro e w' ⟨rfl, h2⟩
    exact ⟨rfl, hW.trans h2 (fun _ _ x => x)⟩) : Calls Tryz.prog 7 #[.slice (some ⟨g, 0, none⟩) L.length cap, .slice a L.length c] W fun e w' => e = .returned (.bool true) ∧ Fr (fun _ => False) w2 w'))
  have HC := Lib.hid (fun (W : World) (hW : Fr (fun _ => False) w2 W) => Fr.cell hW hgl.out)
  have HA := Lib.hid (fun (W : World) (hW : Fr (fun _ => False) w2 W) => ((callsIn_wide.1 (parse_in 5 (Nat.le_refl _) s (by omega) W (HL.out.fr (hfr2.out.trans hW (fun _ _ x => x))))).mono (by
    rintro e w' ⟨h2, v, code, k, rfl, hp⟩
    obtain ⟨M, a1, c1, rfl, h3, h4, h5⟩ := hp.told
    exact ⟨M, a1, c1, code, k, rfl, h4, h5, h3, h2, hW.trans h2 (fun _ _ x => x)⟩) : Calls Tryz.prog 8 #[str s] W fun e w' => ∃ (M : List Ev) (a1 : Option Addr) (c1 : Nat) (code k : Int), e = .returned (.tuple #[.slice a1 M.length c1, .int .i64 code, .int .i64 k]) ∧ PV s M code k ∧ M.length ≤ s.length ∧ Rd w' 4 (.slice a1 M.length c1) M.length (M.flatMap Ev.cells) ∧ Fr (fun _ => False) W w' ∧ Fr (fun _ => False) w2 w'))
  have HB := Lib.hid (fun (W : World) (hW : Fr (fun _ => False) w2 W) => ((refParse_h s (by omega) W).mono (by
    rintro e w' ⟨h2, v, code, k, rfl, hp⟩
    obtain ⟨M, a1, c1, rfl, h3, h4, h5⟩ := hp.told
    exact ⟨M, a1, c1, code, k, rfl, h4, h5, h3, h2, hW.trans h2 (fun _ _ x => x)⟩) : Calls Tryz.prog 9 #[str s] W fun e w' => ∃ (M : List Ev) (a1 : Option Addr) (c1 : Nat) (code k : Int), e = .returned (.tuple #[.slice a1 M.length c1, .int .i64 code, .int .i64 k]) ∧ PV s M code k ∧ M.length ≤ s.length ∧ Rd w' 4 (.slice a1 M.length c1) M.length (M.flatMap Ev.cells) ∧ Fr (fun _ => False) W w' ∧ Fr (fun _ => False) w2 w'))
  have HW2 := Lib.hid (fun (W : World) (hW : Fr (fun _ => False) w2 W) => ((awake_any W (HL.out.fr (hfr2.out.trans hW (fun _ _ x => x)))).mono (by
    rintro e w' ⟨rfl, h2⟩
    exact ⟨rfl, hfr2.out.trans (hW.trans h2 (fun _ _ x => x)) (fun _ _ x => x)⟩) : Calls Tryz.prog 10 #[] W fun e w' => e = .returned (.bool true) ∧ Fr (fun _ => False) w w'))
  have F0 := Lib.hid (Fr.refl (fun _ => False) w2)
  clear HR HW HL hrd2 hgl hfr1 hpv
  go_wp2_with (first
    | (go_at_call 5; refine (HP.out _ F0.out).mono ?_; rintro e w3 ⟨rfl, F3⟩; replace F3 := Lib.hid F3)
    | (go_at_call 6; refine (HQ.out _ F3.out).mono ?_; rintro e w4 ⟨rfl, F4⟩; replace F4 := Lib.hid F4)
    | (go_at_call 7; refine (HS.out _ F4.out).mono ?_; rintro e w5 ⟨rfl, F5⟩; have C5 := HC.out _ F5; replace F5 := Lib.hid F5; clear HS)
    | (go_at_call 8; refine (HA.out _ F5.out).mono ?_; rintro e w6 ⟨M, a1, c1, code, k, rfl, hpv, hml, hr6, hf6, F6⟩; replace F6 := Lib.hid F6; replace hpv := Lib.hid hpv; replace hr6 := Lib.hid hr6)
    | (go_at_call 9; refine (HB.out _ F6.out).mono ?_; rintro e w7 ⟨N, a2, c2, code', k', rfl, hpv2, hml2, hr7, hf7, F7⟩; obtain ⟨rfl, rfl, rfl⟩ := PV.same hpv.out hpv2; have HS2 := Lib.hid (same_h w7 M a1 a2 c1 c2 (hr6.out.fr hf7 (fun _ _ x => x)) hr7 (by omega)); replace F7 := Lib.hid F7; replace hpv2 := Lib.hid hpv2; replace hr7 := Lib.hid hr7; replace hf7 := Lib.hid hf7)
    | (go_at_call 7; refine HS2.out.mono ?_; rintro e w8 ⟨rfl, hf8⟩; have F8 := Lib.hid (F7.out.trans hf8 (fun _ _ x => x)); replace hf8 := Lib.hid hf8)
    | (go_at_call 10; refine (HW2.out _ F8.out).mono ?_; rintro e w9 ⟨rfl, F9⟩; replace F9 := Lib.hid F9))
  go_ret
  exact ⟨rfl, F9.out⟩
end Go.Proofs.YtcemhpdhcmlhlaaGreatDoor

/-
  mallowlaw28.TraceBack: it answers true. Condition: the library's tables lie; the events' numbers fit.
-/
namespace Go.Proofs.YtcemhpdhcmlhlaaGreatDoor
open Go.RowKit Go.Deep Go.Shelf

theorem back_whole {L M : List Ev} {c k : Int} (hall : ∀ x ∈ L, x.right = true) (h : PV (L.flatMap Ev.line) M c k) : M = L ∧ c = 0 ∧ k = 0 :=
  h.same (.inl ⟨linesOf_lines L hall, hall, rfl, rfl⟩)
theorem back_cut {L M : List Ev} {c k : Int} {n : Nat} {b : UInt8} (hall : ∀ x ∈ L, x.right = true) (h0 : n < (L.flatMap Ev.line).length) (hb : (L.flatMap Ev.line)[n]? = some b) (h10 : b ≠ 10) (h : PV ((L.flatMap Ev.line).take (n + 1)) M c k) :
    M = [] ∧ c = 60 ∧ k = ends ((L.flatMap Ev.line).take (n + 1)) + 1 := by
  have hP : (L.flatMap Ev.line).take (n + 1) ≠ [] := by
    intro e
    have := congrArg List.length e
    rw [List.length_take, List.length_nil] at this
    omega
  have hl : ((L.flatMap Ev.line).take (n + 1)).getLast? ≠ some 10 := by
    rw [take_snoc hb]
    simp [h10]
  rcases h with ⟨h1, _, _, _⟩ | ⟨rfl, L', x, h1, h2, h3, rfl, rfl⟩
  · exact absurd h1 (cut_none hP hl)
  · refine ⟨rfl, rfl, ?_⟩
    rw [cut_last hall (List.take_append_drop (n + 1) _) hP hl h3 h1]
theorem back_text {s : List UInt8} {M : List Ev} {k : Int} (h : PV s M 0 k) : k = 0 ∧ printV M = .tuple #[str s, .int .i64 0] := by
  rcases h with ⟨h1, h2, _, h4⟩ | ⟨_, _, _, _, _, _, h5, _⟩
  · refine ⟨h4, ?_⟩
    have : s = M.flatMap Ev.line := by
      rw [← linesOf_flat s, h1, List.flatMap_def]
    unfold printV
    rw [if_pos (List.all_eq_true.2 h2), this]
  · exact absurd h5 (by decide)
theorem PV.code {s : List UInt8} {M : List Ev} {c k : Int} (h : PV s M c k) : c = 0 ∨ c = 60 := by
  rcases h with ⟨_, _, h, _⟩ | ⟨_, _, _, _, _, _, h, _⟩
  · exact .inl h
  · exact .inr h
theorem ends_take {t : List UInt8} {j : Nat} {b : UInt8} (h : t[j]? = some b) : ends (t.take (j + 1)) = ends (t.take j) + if b = 10 then 1 else 0 := by
  rw [take_snoc h]
  unfold ends
  rw [List.countP_append]
  by_cases e : b = 10
  · simp [e]
  · simp [e]

theorem pv_wf {s : List UInt8} {M : List Ev} {c k : Int} (h : PV s M c k) : ∀ x ∈ M, x.wf := by
  rcases h with ⟨_, h, _, _⟩ | ⟨rfl, _⟩
  · exact fun x hx => (right_is (h x hx)).wf
  · intro x hx; cases hx
/-- Print of the argument -/
def BkP (w : World) (a : Option Addr) (c : Nat) (L : List Ev) (pt : List UInt8) (pc : Int) : Prop := ∀ W, Fr (fun _ => False) w W → Calls Tryz.prog 5 #[.slice a L.length c] W fun e w' => e = .returned (.tuple #[str pt, .int .i64 pc]) ∧ Fr (fun _ => False) w w'
/-- Parse of a text -/
def BkA (w : World) (t : List UInt8) : Prop := ∀ W, Fr (fun _ => False) w W → Calls Tryz.prog 8 #[str t] W fun e w' => ∃ (M : List Ev) (a1 : Option Addr) (c1 : Nat) (code k : Int), e = .returned (.tuple #[.slice a1 M.length c1, .int .i64 code, .int .i64 k]) ∧ PV t M code k ∧ M.length ≤ t.length ∧ Rd w' 4 (.slice a1 M.length c1) M.length (M.flatMap Ev.cells) ∧ Fr (fun _ => False) w w'
def BkS (w : World) (a : Option Addr) (c : Nat) (L : List Ev) : Prop := ∀ (W : World) (a1 : Option Addr) (c1 : Nat), Rd W 4 (.slice a1 L.length c1) L.length (L.flatMap Ev.cells) → Fr (fun _ => False) w W → Calls Tryz.prog 7 #[.slice a1 L.length c1, .slice a L.length c] W fun e w' => e = .returned (.bool true) ∧ Fr (fun _ => False) w w'
def BkM (w : World) (s : List UInt8) : Prop := ∀ (M : List Ev) (a1 : Option Addr) (c1 : Nat) (W : World), (∀ x ∈ M, x.wf) → M.length ≤ 1000000 → Rd W 4 (.slice a1 M.length c1) M.length (M.flatMap Ev.cells) → Fr (fun _ => False) w W → printV M = .tuple #[str s, .int .i64 0] → Calls Tryz.prog 5 #[.slice a1 M.length c1] W fun e w' => e = .returned (.tuple #[str s, .int .i64 0]) ∧ Fr (fun _ => False) w w'
def BkW (w : World) : Prop := ∀ W, Fr (fun _ => False) w W → Calls Tryz.prog 10 #[] W fun e w' => e = .returned (.bool true) ∧ Fr (fun _ => False) w w'
/-- Parse of what was printed -/
def BkA1 (w : World) (L : List Ev) (T : List UInt8) : Prop := ∀ W, Fr (fun _ => False) w W → Calls Tryz.prog 8 #[str T] W fun e w' => ∃ (a1 : Option Addr) (c1 : Nat), e = .returned (.tuple #[.slice a1 L.length c1, .int .i64 0, .int .i64 0]) ∧ Rd w' 4 (.slice a1 L.length c1) L.length (L.flatMap Ev.cells) ∧ Fr (fun _ => False) w w'
/-- .. of what was cut -/
def BkA2 (w : World) (P : List UInt8) : Prop := ∀ W, Fr (fun _ => False) w W → Calls Tryz.prog 8 #[str P] W fun e w' => ∃ (a1 : Option Addr) (c1 : Nat), e = .returned (.tuple #[.slice a1 0 c1, .int .i64 60, .int .i64 (ends P + 1)]) ∧ Fr (fun _ => False) w w'
structure Bk (w : World) (a : Option Addr) (c : Nat) (L : List Ev) (s : List UInt8) : Prop where
  h3 : (L.length : Int) ≤ 1000
  h4 : (s.length : Int) ≤ 20000
  A : BkA w s
  S : BkS w a c L
  M : BkM w s
  W : BkW w
end Go.Proofs.YtcemhpdhcmlhlaaGreatDoor

/-
  mallowlaw28.TraceBack: one of its ways.
-/
namespace Go.Proofs.YtcemhpdhcmlhlaaGreatDoor
open Go.RowKit Go.Deep Go.Shelf

set_option maxRecDepth 100000 in
set_option maxHeartbeats 20000000 in
theorem back_a (w : World) (a : Option Addr) (c : Nat) (L : List Ev) (s : List UInt8) (cut : Int) (B : Bk w a c L s) (pt : List UInt8) (hp : BkP w a c L pt 1) :
    Calls Tryz.prog 4 #[.slice a L.length c, str s, .int .i64 cut] w fun e w' => e = .returned (.bool true) ∧ Fr (fun _ => False) w w' := by
  have h3 := B.h3
  have h4 := B.h4
  have HA3 := Lib.hid B.A
  have HS := Lib.hid B.S
  have HM := Lib.hid B.M
  have HW2 := Lib.hid B.W
  have F0 := Lib.hid (Fr.refl (fun _ => False) w)
  clear B
  have HP := Lib.hid hp
  clear hp
  go_enter Tryz.func4, Tryz.ntmps4
  go_wp2_with (first
    | (go_at_call 5; refine (HP.out _ F0.out).mono ?_; rintro e w1 ⟨rfl, F1⟩; replace F0 := Lib.hid F1; clear HP F1)
    | (go_at_call 8; refine (HA3.out _ F0.out).mono ?_; rintro e w5 ⟨M, a3, c3, code, k3, rfl, hpv3, hml, hr3, F1⟩; replace F0 := Lib.hid F1; clear HA3 F1; replace hr3 := Lib.hid hr3; replace hpv3 := Lib.hid hpv3; rcases hpv3.out.code with rfl | rfl; obtain ⟨rfl, hpm⟩ := back_text hpv3.out; replace hpm := Lib.hid hpm)
    | (go_at_call 5; refine (HM.out M a3 c3 _ (fun x hx => pv_wf hpv3.out x hx) (by omega) hr3.out F0.out hpm.out).mono ?_; rintro e w6 ⟨rfl, F1⟩; replace F0 := Lib.hid F1; clear F1)
    | (go_at_call 10; refine (HW2.out _ F0.out).mono ?_; rintro e w7 ⟨rfl, F1⟩; replace F0 := Lib.hid F1; clear F1))
  all_goals go_ret
  all_goals exact ⟨rfl, F0.out⟩
end Go.Proofs.YtcemhpdhcmlhlaaGreatDoor

/-
  mallowlaw28.TraceBack: one of its ways.
-/
namespace Go.Proofs.YtcemhpdhcmlhlaaGreatDoor
open Go.RowKit Go.Deep Go.Shelf

set_option maxRecDepth 100000 in
set_option maxHeartbeats 20000000 in
theorem back_b (w : World) (a : Option Addr) (c : Nat) (L : List Ev) (s : List UInt8) (cut : Int) (B : Bk w a c L s) (hp : BkP w a c L [] 0) (ha : BkA1 w L []) :
    Calls Tryz.prog 4 #[.slice a L.length c, str s, .int .i64 cut] w fun e w' => e = .returned (.bool true) ∧ Fr (fun _ => False) w w' := by
  have h3 := B.h3
  have h4 := B.h4
  have HA3 := Lib.hid B.A
  have HS := Lib.hid B.S
  have HM := Lib.hid B.M
  have HW2 := Lib.hid B.W
  have F0 := Lib.hid (Fr.refl (fun _ => False) w)
  clear B
  have HP := Lib.hid hp
  have HA1 := Lib.hid ha
  clear hp ha
  go_enter Tryz.func4, Tryz.ntmps4
  go_wp2_with (first
    | (go_at_call 5; refine (HP.out _ F0.out).mono ?_; rintro e w1 ⟨rfl, F1⟩; replace F0 := Lib.hid F1; clear HP F1)
    | (go_at_call 8; refine (HA1.out _ F0.out).mono ?_; rintro e w2 ⟨a1, c1, rfl, hr1, F1⟩; have HS1 := Lib.hid (HS.out _ a1 c1 hr1 F1); replace F0 := Lib.hid F1; clear HA1 F1 hr1 HS)
    | (go_at_call 7; refine HS1.out.mono ?_; rintro e w3 ⟨rfl, F1⟩; replace F0 := Lib.hid F1; clear HS1 F1)
    | (go_at_call 8; refine (HA3.out _ F0.out).mono ?_; rintro e w5 ⟨M, a3, c3, code, k3, rfl, hpv3, hml, hr3, F1⟩; replace F0 := Lib.hid F1; clear HA3 F1; replace hr3 := Lib.hid hr3; replace hpv3 := Lib.hid hpv3; rcases hpv3.out.code with rfl | rfl; obtain ⟨rfl, hpm⟩ := back_text hpv3.out; replace hpm := Lib.hid hpm)
    | (go_at_call 5; refine (HM.out M a3 c3 _ (fun x hx => pv_wf hpv3.out x hx) (by omega) hr3.out F0.out hpm.out).mono ?_; rintro e w6 ⟨rfl, F1⟩; replace F0 := Lib.hid F1; clear F1)
    | (go_at_call 10; refine (HW2.out _ F0.out).mono ?_; rintro e w7 ⟨rfl, F1⟩; replace F0 := Lib.hid F1; clear F1))
  all_goals go_ret
  all_goals exact ⟨rfl, F0.out⟩
set_option maxRecDepth 100000 in
set_option maxHeartbeats 20000000 in
theorem back_c (w : World) (a : Option Addr) (c : Nat) (L : List Ev) (s : List UInt8) (cut : Int) (B : Bk w a c L s) (T : List UInt8) (hTl : (T.length : Int) ≤ 100000) (hz1 : 0 < (T.length : Int)) (hz2 : cut ≤ 0) (hp : BkP w a c L T 0) (ha : BkA1 w L T) :
    Calls Tryz.prog 4 #[.slice a L.length c, str s, .int .i64 cut] w fun e w' => e = .returned (.bool true) ∧ Fr (fun _ => False) w w' := by
  have h3 := B.h3
  have h4 := B.h4
  have HA3 := Lib.hid B.A
  have HS := Lib.hid B.S
  have HM := Lib.hid B.M
  have HW2 := Lib.hid B.W
  have F0 := Lib.hid (Fr.refl (fun _ => False) w)
  clear B
  have HP := Lib.hid hp
  have HA1 := Lib.hid ha
  clear hp ha
  go_enter Tryz.func4, Tryz.ntmps4
  go_wp2_with (first
    | (go_at_call 5; refine (HP.out _ F0.out).mono ?_; rintro e w1 ⟨rfl, F1⟩; replace F0 := Lib.hid F1; clear HP F1)
    | (go_at_call 8; refine (HA1.out _ F0.out).mono ?_; rintro e w2 ⟨a1, c1, rfl, hr1, F1⟩; have HS1 := Lib.hid (HS.out _ a1 c1 hr1 F1); replace F0 := Lib.hid F1; clear HA1 F1 hr1 HS)
    | (go_at_call 7; refine HS1.out.mono ?_; rintro e w3 ⟨rfl, F1⟩; replace F0 := Lib.hid F1; clear HS1 F1)
    | (go_at_call 8; refine (HA3.out _ F0.out).mono ?_; rintro e w5 ⟨M, a3, c3, code, k3, rfl, hpv3, hml, hr3, F1⟩; replace F0 := Lib.hid F1; clear HA3 F1; replace hr3 := Lib.hid hr3; replace hpv3 := Lib.hid hpv3; rcases hpv3.out.code with rfl | rfl; obtain ⟨rfl, hpm⟩ := back_text hpv3.out; replace hpm := Lib.hid hpm)
    | (go_at_call 5; refine (HM.out M a3 c3 _ (fun x hx => pv_wf hpv3.out x hx) (by omega) hr3.out F0.out hpm.out).mono ?_; rintro e w6 ⟨rfl, F1⟩; replace F0 := Lib.hid F1; clear F1)
    | (go_at_call 10; refine (HW2.out _ F0.out).mono ?_; rintro e w7 ⟨rfl, F1⟩; replace F0 := Lib.hid F1; clear F1))
  all_goals go_ret
  all_goals exact ⟨rfl, F0.out⟩
end Go.Proofs.YtcemhpdhcmlhlaaGreatDoor

/-
  mallowlaw28.TraceBack: one of its ways.
-/
namespace Go.Proofs.YtcemhpdhcmlhlaaGreatDoor
open Go.RowKit Go.Deep Go.Shelf

set_option maxRecDepth 100000 in
set_option maxHeartbeats 20000000 in
theorem back_d (w : World) (a : Option Addr) (c : Nat) (L : List Ev) (s : List UInt8) (cut : Int) (B : Bk w a c L s) (T : List UInt8) (hTl : (T.length : Int) ≤ 100000) (hz1 : 0 < (T.length : Int)) (hz2 : 0 < cut) (hc2 : cut ≤ 9223372036854775807) (hk : cut % (T.length : Int) = 0) (hp : BkP w a c L T 0) (ha : BkA1 w L T) :
    Calls Tryz.prog 4 #[.slice a L.length c, str s, .int .i64 cut] w fun e w' => e = .returned (.bool true) ∧ Fr (fun _ => False) w w' := by
  have h3 := B.h3
  have h4 := B.h4
  have HA3 := Lib.hid B.A
  have HS := Lib.hid B.S
  have HM := Lib.hid B.M
  have HW2 := Lib.hid B.W
  have F0 := Lib.hid (Fr.refl (fun _ => False) w)
  clear B
  have HP := Lib.hid hp
  have HA1 := Lib.hid ha
  clear hp ha
  go_enter Tryz.func4, Tryz.ntmps4
  go_wp2_with (first
    | (go_at_call 5; refine (HP.out _ F0.out).mono ?_; rintro e w1 ⟨rfl, F1⟩; replace F0 := Lib.hid F1; clear HP F1)
    | (go_at_call 8; refine (HA1.out _ F0.out).mono ?_; rintro e w2 ⟨a1, c1, rfl, hr1, F1⟩; have HS1 := Lib.hid (HS.out _ a1 c1 hr1 F1); replace F0 := Lib.hid F1; clear HA1 F1 hr1 HS)
    | (go_at_call 7; refine HS1.out.mono ?_; rintro e w3 ⟨rfl, F1⟩; replace F0 := Lib.hid F1; clear HS1 F1)
    | (go_at_call 8; refine (HA3.out _ F0.out).mono ?_; rintro e w5 ⟨M, a3, c3, code, k3, rfl, hpv3, hml, hr3, F1⟩; replace F0 := Lib.hid F1; clear HA3 F1; replace hr3 := Lib.hid hr3; replace hpv3 := Lib.hid hpv3; rcases hpv3.out.code with rfl | rfl; obtain ⟨rfl, hpm⟩ := back_text hpv3.out; replace hpm := Lib.hid hpm)
    | (go_at_call 5; refine (HM.out M a3 c3 _ (fun x hx => pv_wf hpv3.out x hx) (by omega) hr3.out F0.out hpm.out).mono ?_; rintro e w6 ⟨rfl, F1⟩; replace F0 := Lib.hid F1; clear F1)
    | (go_at_call 10; refine (HW2.out _ F0.out).mono ?_; rintro e w7 ⟨rfl, F1⟩; replace F0 := Lib.hid F1; clear F1))
  all_goals go_ret
  all_goals exact ⟨rfl, F0.out⟩
end Go.Proofs.YtcemhpdhcmlhlaaGreatDoor

/-
  mallowlaw28.TraceBack: one of its ways.
-/
namespace Go.Proofs.YtcemhpdhcmlhlaaGreatDoor
open Go.RowKit Go.Deep Go.Shelf

set_option maxRecDepth 100000 in
set_option maxHeartbeats 20000000 in
theorem back_e (w : World) (a : Option Addr) (c : Nat) (L : List Ev) (s : List UInt8) (cut : Int) (B : Bk w a c L s) (T : List UInt8) (hTl : (T.length : Int) ≤ 100000) (hz1 : 0 < (T.length : Int)) (hz2 : 0 < cut) (hc2 : cut ≤ 9223372036854775807) (n : Nat) (hk : cut % (T.length : Int) = ((n : Int) + 1)) (hkl : (n : Int) + 1 < T.length) (b : UInt8) (hb : T[n]? = some b) (h10 : b = 10) (hp : BkP w a c L T 0) (ha : BkA1 w L T) :
    Calls Tryz.prog 4 #[.slice a L.length c, str s, .int .i64 cut] w fun e w' => e = .returned (.bool true) ∧ Fr (fun _ => False) w w' := by
  have h3 := B.h3
  have h4 := B.h4
  have HA3 := Lib.hid B.A
  have HS := Lib.hid B.S
  have HM := Lib.hid B.M
  have HW2 := Lib.hid B.W
  have F0 := Lib.hid (Fr.refl (fun _ => False) w)
  clear B
  have HP := Lib.hid hp
  have HA1 := Lib.hid ha
  clear hp ha
  have hbs : n < (⟨T.toArray⟩ : ByteArray).size := by rw [size_mk]; omega
  have hb0 := byte_at hb hbs
  replace hb := Lib.hid hb
  subst h10
  go_enter Tryz.func4, Tryz.ntmps4
  go_wp2_with (first
    | (go_at_call 5; refine (HP.out _ F0.out).mono ?_; rintro e w1 ⟨rfl, F1⟩; replace F0 := Lib.hid F1; clear HP F1)
    | (go_at_call 8; refine (HA1.out _ F0.out).mono ?_; rintro e w2 ⟨a1, c1, rfl, hr1, F1⟩; have HS1 := Lib.hid (HS.out _ a1 c1 hr1 F1); replace F0 := Lib.hid F1; clear HA1 F1 hr1 HS)
    | (go_at_call 7; refine HS1.out.mono ?_; rintro e w3 ⟨rfl, F1⟩; replace F0 := Lib.hid F1; clear HS1 F1)
    | (go_at_call 8; refine (HA3.out _ F0.out).mono ?_; rintro e w5 ⟨M, a3, c3, code, k3, rfl, hpv3, hml, hr3, F1⟩; replace F0 := Lib.hid F1; clear HA3 F1; replace hr3 := Lib.hid hr3; replace hpv3 := Lib.hid hpv3; rcases hpv3.out.code with rfl | rfl; obtain ⟨rfl, hpm⟩ := back_text hpv3.out; replace hpm := Lib.hid hpm)
    | (go_at_call 5; refine (HM.out M a3 c3 _ (fun x hx => pv_wf hpv3.out x hx) (by omega) hr3.out F0.out hpm.out).mono ?_; rintro e w6 ⟨rfl, F1⟩; replace F0 := Lib.hid F1; clear F1)
    | (go_at_call 10; refine (HW2.out _ F0.out).mono ?_; rintro e w7 ⟨rfl, F1⟩; replace F0 := Lib.hid F1; clear F1))
  all_goals go_ret
  all_goals exact ⟨rfl, F0.out⟩
end Go.Proofs.YtcemhpdhcmlhlaaGreatDoor
