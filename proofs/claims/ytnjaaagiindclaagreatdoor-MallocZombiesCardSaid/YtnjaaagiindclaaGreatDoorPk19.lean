/-
  Part 19 of what the statement leans on: OneA, Zc, WF1, Loc, L1, L2, Zf2.
-/
import Derived.Test.YtnjaaagiindclaaGreatDoorPk15
import Derived.Test.YtnjaaagiindclaaGreatDoorPk16
import Derived.Test.YtnjaaagiindclaaGreatDoorPk17
import Derived.Test.YtnjaaagiindclaaGreatDoorPk18
/-
  SX: sets of numbers: Add as a contract.
-/
namespace Go.Proofs.YtnjaaagiindclaaGreatDoor
open Go.RowKit Go.Deep
namespace SX
open Go.Proofs.YtnjaaagiindclaaGreatDoor.One
/-- what Cut leaves -/
def cutL (l : List P2) (x y : Nat) : List P2 := l.take (atP x l) ++ (mids x y (l.drop (atP x l)) ++ tailR y (l.drop (atP x l)))
noncomputable def spAddS : Spec := fun args h n K => match args with
  | [a, x, y] => (match natL x with
    | some x => (match natL y with
      | some y => (match a with
        | .p b o => (match o with
          | .c o => setAt h b o fun t cs l s => if ((Nat.blt x y && Nat.ble y 18446744073709551615) && Nat.ble (cntR x y (l.drop (atP x l))) s) && ((canB (cutL l x y) && Nat.ble (cutL l x y).length 999999) && Nat.ble (s - cntR x y (l.drop (atP x l)) + (y - x)) 18446744073709551615) then
              K true (.tup []) ((n, .vec 290 2 (svs (addJ (cutL l x y) (atP x (cutL l x y)) x y)) (.o (n + 1) 0)) ::
                h.set b (.cells t (lset (lset cs (o + 1) (.l .u64 (Int.ofNat (s - cntR x y (l.drop (atP x l)) + (y - x))))) o (.sl true n 2 0 (addJ (cutL l x y) (atP x (cutL l x y)) x y).length (.o (n + 1) 0))))) (n + 2) else .fail 751
          | _ => .fail 752)
        | _ => .fail 753)
      | none => .fail 754)
    | none => .fail 755)
  | _ => .fail 756
theorem spAddS_ok (𝔅 : BigRep) : SpecEnters Tryz.prog 𝔅 188 spAddS where
  enter := enter_of Tryz.func188 (bodyOf_eq (by kernel_rfl)) (by kernel_rfl)
  calls := by
    intro C Q args h n K hB hk ρ w vs hv hH hbd
    unfold spAddS at hk
    split at hk <;> try exact hk.elim
    split at hk <;> try exact hk.elim
    split at hk <;> try exact hk.elim
    split at hk <;> try exact hk.elim
    split at hk <;> try exact hk.elim
    rename_i x' y' o1 x hx o2 y hy a b o' o
    obtain ⟨v1, _, e1, h1, v2, _, rfl, h2, v3, _, rfl, h3, rfl⟩ := hv
    rw [natL_is hx] at h2
    rw [natL_is hy] at h3
    simp only [SV.Rel] at h1 h2 h3
    subst h2 h3
    obtain ⟨g, hg, rfl⟩ := h1
    have e2 : vs = #[.pointer (some ⟨g, o, none⟩), .int .u64 (x : Int), .int .u64 (y : Int)] := by rw [← Array.toList_inj, e1]; rfl
    subst e2
    obtain ⟨t, cs, l, s, q1, q2, q3, q4, q5, q6, q7, q8, hd⟩ := setAt_den hk
    split at hd
    next hc =>
      simp only [Bool.and_eq_true, Nat.blt_eq] at hc
      obtain ⟨⟨⟨hc1, hc2⟩, hc3⟩, ⟨hc4, hc5⟩, hc6⟩ := hc
      have hc2 := Nat.le_of_ble_eq_true hc2
      have hc3 := Nat.le_of_ble_eq_true hc3
      have hc5 := Nat.le_of_ble_eq_true hc5
      have hc6 := Nat.le_of_ble_eq_true hc6
      have hcan := canB_is hc4
      obtain ⟨c, u, hin, hrel⟩ := setAt_in hH hg q1 q2 q3 q4 q5 q6 q7
      refine (One.add_any w hin x y hc1 hc2 (fun r hr => by rw [hr.uniq (atP_is q6 x)]; exact hc3) q8 (l1 := cutL l x y) (s1 := s - cntR x y (l.drop (atP x l))) (fun r hr => by rw [hr.uniq (atP_is q6 x)]; exact ⟨rfl, rfl⟩) hcan hc5 hc6).mono ?_
      rintro e w' ⟨r, v', rfl, hq⟩
      obtain ⟨hr, hf, hb', hown⟩ := hq.out
      have := hr.uniq (atP_is hcan x)
      subst this
      generalize hL : addJ (cutL l x y) (atP x (cutL l x y)) x y = l' at hd hown
      generalize hS : s - cntR x y (l.drop (atP x l)) + (y - x) = s' at hd hb'
      have hs1 : SV.Rel ρ (.l .u64 (Int.ofNat s')) (.int .u64 (s' : Int)) := by simp only [SV.Rel]; rfl
      have fin : ∀ (g3 cap : Nat), (SV.sl true n 2 0 l'.length (.o (n + 1) 0)).Rel (upd (upd ρ n g3) (n + 1) cap) v' → (∀ Gs, Hp C.I w' (Gs ++ C.R) → (∀ x ∈ (Gs ++ C.R).flatten, x.1 < w.heap.size) → ∃ G, Rep C.B (upd (upd ρ n g3) (n + 1) cap) n (.vec 290 2 (svs l') (.o (n + 1) 0)) G ∧ Hp C.I w' (G :: (Gs ++ C.R))) →
          ∃ bb vv x h' n' ρ', Ending.returned (.tuple #[]) = Ended bb vv ∧ SV.Rel ρ' x vv ∧ Holds C ρ' h' w' ∧ ρ.le ρ' ∧ ρ'.bd n' ∧ (K bb x h' n').den Q := by
        intro g3 cap hsl hG
        have hle : ρ.le (upd (upd ρ n g3) (n + 1) cap) := fun i z e => upd_le (upd_bd hbd _ (Nat.le_refl _)) _ _ (upd_le (hbd _ (Nat.le_refl _)) _ _ e)
        have hrel' : RelL (upd (upd ρ n g3) (n + 1) cap) (lset (lset cs (o + 1) (.l .u64 (Int.ofNat s'))) o (.sl true n 2 0 l'.length (.o (n + 1) 0))) ((c.setIfInBounds (o + 1) (.int .u64 ((s' : Nat) : Int))).setIfInBounds o v').toList := by
          rw [Array.toList_setIfInBounds, Array.toList_setIfInBounds]
          exact ((RelL.mono hle _ _ hrel).set (o + 1) (SV.Rel.mono hle _ _ hs1)).set o hsl
        obtain ⟨Gs, hR, hp, hlt⟩ := hH.turned hle hg q1 hf hb' hrel'
        obtain ⟨G, hrep, hp2⟩ := hG Gs hp hlt
        have hRR : Reps C.B (upd (upd ρ n g3) (n + 1) cap) ((n, .vec 290 2 (svs l') (.o (n + 1) 0)) :: h.set b (.cells t (lset (lset cs (o + 1) (.l .u64 (Int.ofNat s'))) o (.sl true n 2 0 l'.length (.o (n + 1) 0))))) (G :: Gs) := ⟨G, Gs, rfl, hrep, hR⟩
        refine ⟨true, .tuple #[], .tup [], _, _, _, rfl, by simp only [SV.Rel]; exact ⟨_, rfl, .nil⟩, ⟨G :: Gs, hRR, hp2⟩, hle, upd_bd (upd_bd hbd), hd⟩
      obtain ⟨_, ⟨rfl, h0⟩ | ⟨g3, cap, cur, rfl, hB3, hcur, hle3, hmax, hsz, htk⟩⟩ := hown
      · have hl0 : l' = [] := List.eq_nil_of_length_eq_zero h0
        subst hl0
        refine fin 0 0 ?_ fun Gs hp _ => ⟨[], ?_, hp.nil⟩
        · simp only [SV.Rel]
          exact ⟨none, 0, rfl, ⟨0, upd_at _ _ _, rfl⟩, Nat.le_refl _, fun _ => ⟨0, upd_le (upd_bd hbd _ (Nat.le_refl _)) _ _ (upd_at _ _ _), fun hh => by rcases hh with hh | hh; exact absurd hh (by omega); exact hh.elim⟩⟩
        · exact ⟨0, ⟨0, upd_at _ _ _, rfl⟩, Nat.le_refl _, by simp [maxLen], .inl ⟨rfl, rfl⟩⟩
      · refine fin g3 cap ?_ fun Gs hp hlt => ⟨[(g3, .cells cur 290 (0, 0))], ?_, hp_new hp hlt hB3 hcur⟩
        · simp only [SV.Rel]
          exact ⟨_, cap, rfl, ⟨cap, upd_at _ _ _, rfl⟩, hle3, fun _ => ⟨g3, upd_le (upd_bd hbd _ (Nat.le_refl _)) _ _ (upd_at _ _ _), fun _ => rfl⟩⟩
        · refine ⟨cap, ⟨cap, upd_at _ _ _, rfl⟩, by rw [svs_len]; omega, hmax, .inr ⟨g3, cur, upd_le (upd_bd hbd _ (Nat.le_refl _)) _ _ (upd_at _ _ _), rfl, hsz, ?_⟩⟩
          rw [svs_len, htk]
          exact rel_svs l'
    · exact hd.elim
/-- may it be told at once? -/
noncomputable def addB : List SV → Heap → Bool := fun args h => match args with
  | [a, x, y] => (match natL x with
    | some x => (match natL y with
      | some y => (match a with
        | .p b o => (match o with
          | .c o => Nat.blt x y && (match h.get b with
            | some ob => (match ob with
              | .cells _ cs => (match setOf h (lget cs o) with
                | some _ => true
                | none => false)
              | _ => false)
            | none => false)
          | _ => false)
        | _ => false)
      | none => false)
    | none => false)
  | _ => false
noncomputable def addS (l : List (FuncId × Spec)) : Spec := pickS addB spAddS (runP Tryz.prog l 188 Tryz.f188)
theorem addS_ok {𝔅 : BigRep} {l : List (FuncId × Spec)} (h : ∀ x ∈ l, SpecOk Tryz.prog 𝔅 x.1 x.2) : SpecEnters Tryz.prog 𝔅 188 (addS l) := pickS_ok (spAddS_ok 𝔅) (runP_ok fit h Tryz.func188 (by kernel_rfl))
end SX
end Go.Proofs.YtnjaaagiindclaaGreatDoor

/-
  The contracts of closed runs, with sets' Swept, and what a cache holds. The table of TrailingZeros64 lies.
-/
namespace Go.Proofs.YtnjaaagiindclaaGreatDoor
open Go.RowKit Go.Deep
namespace SX
noncomputable def wtI0 : List (FuncId × Spec) := (41, objSpec 1 stSwept) :: (33, spSpansN) :: wtH wtA
theorem wtI0_ok {W : World} (hL : Laid W) (lo hi : Nat) : ∀ x ∈ wtI0, SpecOk Tryz.prog (numB W lo hi) x.1 x.2 := cons_ok (.inl (obj_ok setsM_ok (fun l g G => numB_s W lo hi l g G) ok_swept)) (cons_ok (.inl (spSpansN_ok (numB W lo hi))) (wtH_ok (wtA_ok hL lo hi)))
noncomputable def wtI : List (FuncId × Spec) := (188, addS wtI0) :: wtI0
theorem wtI_ok {W : World} (hL : Laid W) (lo hi : Nat) : ∀ x ∈ wtI, SpecOk Tryz.prog (numB W lo hi) x.1 x.2 := cons_ok (.inl (addS_ok (wtI0_ok hL lo hi))) (wtI0_ok hL lo hi)
end SX
end Go.Proofs.YtnjaaagiindclaaGreatDoor

/-
  What fresh makes, what is often used first. No condition.
-/
namespace Go.Proofs.YtnjaaagiindclaaGreatDoor
open Go.RowKit Go.Deep
namespace SX
/-- an object out of a heap -/
def Heap.out : Heap → Nat → Option (SObj × Heap)
  | [], _ => none
  | x :: h, b => if Nat.beq x.1 b then some (x.2, h) else (match Heap.out h b with
    | some p => some (p.1, x :: p.2)
    | none => none)
def Heap.outs : List Nat → Heap → Option Heap
  | [], _ => some []
  | b :: l, h => (match Heap.out h b with
    | some p => (match Heap.outs l p.2 with
      | some r => some ((b, p.1) :: r)
      | none => none)
    | none => none)
theorem Reps.out {𝔅 : BigRep} {ρ : Ren} : ∀ {h : Heap} {b : Nat} {p : SObj × Heap} {Gs : List Grp}, Heap.out h b = some p → Reps 𝔅 ρ h Gs → ∃ G Ks, Rep 𝔅 ρ b p.1 G ∧ Reps 𝔅 ρ p.2 Ks ∧ Gs.Perm (G :: Ks)
  | [], _, _, _, e, _ => by cases e
  | x :: h, b, p, Gs, e, r => by
    obtain ⟨G, Ks, rfl, r1, r2⟩ := r
    unfold Heap.out at e
    split at e
    next hb =>
      cases e
      have := Nat.eq_of_beq_eq_true hb
      subst this
      exact ⟨G, Ks, r1, r2, .refl _⟩
    · split at e
      next q hq =>
        cases e
        obtain ⟨G', Js, h1, h2, h3⟩ := Reps.out hq r2
        exact ⟨G', G :: Js, h1, ⟨G, Js, rfl, r1, h2⟩, (h3.cons _).trans (.swap ..)⟩
      · cases e
theorem Reps.outs {𝔅 : BigRep} {ρ : Ren} : ∀ {l : List Nat} {h r : Heap} {Gs : List Grp}, Heap.outs l h = some r → Reps 𝔅 ρ h Gs → ∃ Ks Ds, Reps 𝔅 ρ r Ks ∧ Gs.Perm (Ds ++ Ks)
  | [], h, r, Gs, e, hr => by cases e; exact ⟨[], Gs, rfl, by rw [List.append_nil]⟩
  | b :: l, h, r, Gs, e, hr => by
    unfold Heap.outs at e
    split at e
    next p hp =>
      split at e
      next q hq =>
        cases e
        obtain ⟨G, Ks, h1, h2, h3⟩ := Reps.out hp hr
        obtain ⟨Js, Ds, h4, h5⟩ := Reps.outs hq h2
        exact ⟨G :: Js, Ds, ⟨G, Js, rfl, h1, h4⟩, h3.trans ((h5.cons _).trans List.perm_middle.symm)⟩
      · cases e
    · cases e
theorem Holds.outs {C : Ctx} {ρ : Ren} {l : List Nat} {h r : Heap} {w : World} (e : Heap.outs l h = some r) (H : Holds C ρ h w) : Holds C ρ r w := by
  obtain ⟨Gs, hr, hp⟩ := H
  obtain ⟨Ks, Ds, h1, h2⟩ := Reps.outs e hr
  refine ⟨Ks, h1, ?_⟩
  have hp2 : Hp C.I w (Ds ++ (Ks ++ C.R)) := by
    rw [← List.append_assoc]
    exact hp.permG (h2.append_right _)
  clear hp h2
  induction Ds with
  | nil => exact hp2
  | cons D Ds ih => exact ih (by rw [List.cons_append] at hp2; exact hp2.drop)
def F1h0 (h : Heap) : Heap :=
  (107, .cells 84 [(q 37), (q 103), (q 104), (q 108), (.sl true 122 1 0 2 (.o 123 0)), (q 110), (.m 105), (q 106), (j 100), .ff, (u 0), (u 0)]) ::
  (37, .cells 141 [(q 16), (q 17), (q 35), (q 38), (.m 36), (q 39), (q 40), (q 41), (q 42), (q 43), (q 44), (q 45), (q 46), (q 47), (q 48), (q 49), (q 50), (q 51), (q 52), (q 53), (q 54), (q 55), (q 56), (q 57), (q 58), (q 59), (q 60), (q 61), (q 62), (q 63), (q 64), (q 65), (q 66), (q 67), (q 68), (q 69), (q 70), (q 71), (q 72), (q 73), (q 74), (q 75), (q 76), (q 77), (q 78), (q 79), (q 80), (q 81), (q 82), (q 83), (q 84), (q 85), (q 86), (q 87), (q 88), (q 89), (q 90), (q 91), (q 92), (q 93), (q 94), (q 95), (q 96), (q 97), (q 98), (q 99), (q 100), (q 101), (q 102), (u 0), (u 0)]) ::
  (103, .big (.d 1 [])) ::
  (104, .cells 184 [.np, (j 0)]) ::
  (108, .cells 151 ((q 37) :: (q 103) :: (q 104) :: .ns :: (rp_ 4 (u 0) []))) ::
  (110, .cells 193 ((q 37) :: (rp_ 256 .ns [(.m 111), (.m 112), (.m 113), (.m 114), (.m 109)]))) ::
  (106, .cells 187 [.ns]) ::
  (105, mpi .i64 []) ::
  (122, .vec 97 1 [(q 116), (q 120)] (.o 123 0)) ::
  (16, .cells 181 [(.sl true 11 1 0 0 (.zr)), (.sl true 12 1 0 0 (.zr)), (.sl true 13 1 0 0 (.zr)), .ns, (u 0), .ns, (u 0), .ns, (u 0), (.m 14), (.m 15)]) ::
  (17, .cells 252 [.ns, (u 0), .ns, (u 0), .ns, (u 0), .ns, (u 0), (.sl true 32 1 0 4 (.o 33 0))]) ::
  (35, .cells 246 [.ns, (u 0), .ns, (.m 34)]) ::
  (38, .cells 256 [(j 1), .ns, .np, (j 0)]) ::
  (39, .cells 258 [(u 0), (u 0), (u 0)]) ::
  (40, .cells 258 [(u 0), (u 0), (u 0)]) ::
  (36, mpi .i64 []) ::
  (111, mpi .i64 []) ::
  (112, mpi .i64 []) ::
  (113, mpi .i64 []) ::
  (114, mpi .i64 []) ::
  (109, mpi .u64 []) ::
  (116, .cells 156 ((q 115) :: (rp_ 137 (j 0) [(u 0), (j 0)]))) ::
  (120, .cells 156 ((q 115) :: (j 1) :: (rp_ 136 (j 0) [(u 0), (j 0)]))) ::
  (14, mpi .u64 []) ::
  (15, mpi .u64 []) ::
  (11, .vec 22 1 [] (.c 0)) ::
  (12, .vec 4 1 [] (.c 0)) ::
  (13, .vec 22 1 [] (.c 0)) ::
  (32, .vec 304 1 [(.m 18), (.m 22), (.m 26), (.m 30)] (.o 33 0)) ::
  (34, mpi .u64 []) ::
  (115, .cells 195 [(q 108)]) ::
  (18, mpi .u64 []) ::
  (22, mpi .u64 []) ::
  (26, mpi .u64 []) ::
  (30, mpi .u64 []) ::
  (41, .cells 258 [(u 0), (u 0), (u 0)]) ::
  (42, .cells 258 [(u 0), (u 0), (u 0)]) ::
  (43, .cells 258 [(u 0), (u 0), (u 0)]) ::
  (44, .cells 258 [(u 0), (u 0), (u 0)]) ::
  (45, .cells 258 [(u 0), (u 0), (u 0)]) :: h
def F1h1 (h : Heap) : Heap :=
  (46, .cells 258 [(u 0), (u 0), (u 0)]) ::
  (47, .cells 258 [(u 0), (u 0), (u 0)]) ::
  (48, .cells 258 [(u 0), (u 0), (u 0)]) ::
  (49, .cells 258 [(u 0), (u 0), (u 0)]) ::
  (50, .cells 258 [(u 0), (u 0), (u 0)]) ::
  (51, .cells 258 [(u 0), (u 0), (u 0)]) ::
  (52, .cells 258 [(u 0), (u 0), (u 0)]) ::
  (53, .cells 258 [(u 0), (u 0), (u 0)]) ::
  (54, .cells 258 [(u 0), (u 0), (u 0)]) ::
  (55, .cells 258 [(u 0), (u 0), (u 0)]) ::
  (56, .cells 258 [(u 0), (u 0), (u 0)]) ::
  (57, .cells 258 [(u 0), (u 0), (u 0)]) ::
  (58, .cells 258 [(u 0), (u 0), (u 0)]) ::
  (59, .cells 258 [(u 0), (u 0), (u 0)]) ::
  (60, .cells 258 [(u 0), (u 0), (u 0)]) ::
  (61, .cells 258 [(u 0), (u 0), (u 0)]) ::
  (62, .cells 258 [(u 0), (u 0), (u 0)]) ::
  (63, .cells 258 [(u 0), (u 0), (u 0)]) ::
  (64, .cells 258 [(u 0), (u 0), (u 0)]) ::
  (65, .cells 258 [(u 0), (u 0), (u 0)]) ::
  (66, .cells 258 [(u 0), (u 0), (u 0)]) ::
  (67, .cells 258 [(u 0), (u 0), (u 0)]) ::
  (68, .cells 258 [(u 0), (u 0), (u 0)]) ::
  (69, .cells 258 [(u 0), (u 0), (u 0)]) ::
  (70, .cells 258 [(u 0), (u 0), (u 0)]) ::
  (71, .cells 258 [(u 0), (u 0), (u 0)]) ::
  (72, .cells 258 [(u 0), (u 0), (u 0)]) ::
  (73, .cells 258 [(u 0), (u 0), (u 0)]) ::
  (74, .cells 258 [(u 0), (u 0), (u 0)]) ::
  (75, .cells 258 [(u 0), (u 0), (u 0)]) ::
  (76, .cells 258 [(u 0), (u 0), (u 0)]) ::
  (77, .cells 258 [(u 0), (u 0), (u 0)]) ::
  (78, .cells 258 [(u 0), (u 0), (u 0)]) ::
  (79, .cells 258 [(u 0), (u 0), (u 0)]) ::
  (80, .cells 258 [(u 0), (u 0), (u 0)]) ::
  (81, .cells 258 [(u 0), (u 0), (u 0)]) ::
  (82, .cells 258 [(u 0), (u 0), (u 0)]) ::
  (83, .cells 258 [(u 0), (u 0), (u 0)]) ::
  (84, .cells 258 [(u 0), (u 0), (u 0)]) ::
  (85, .cells 258 [(u 0), (u 0), (u 0)]) :: h
def F1h2 (h : Heap) : Heap :=
  (86, .cells 258 [(u 0), (u 0), (u 0)]) ::
  (87, .cells 258 [(u 0), (u 0), (u 0)]) ::
  (88, .cells 258 [(u 0), (u 0), (u 0)]) ::
  (89, .cells 258 [(u 0), (u 0), (u 0)]) ::
  (90, .cells 258 [(u 0), (u 0), (u 0)]) ::
  (91, .cells 258 [(u 0), (u 0), (u 0)]) ::
  (92, .cells 258 [(u 0), (u 0), (u 0)]) ::
  (93, .cells 258 [(u 0), (u 0), (u 0)]) ::
  (94, .cells 258 [(u 0), (u 0), (u 0)]) ::
  (95, .cells 258 [(u 0), (u 0), (u 0)]) ::
  (96, .cells 258 [(u 0), (u 0), (u 0)]) ::
  (97, .cells 258 [(u 0), (u 0), (u 0)]) ::
  (98, .cells 258 [(u 0), (u 0), (u 0)]) ::
  (99, .cells 258 [(u 0), (u 0), (u 0)]) ::
  (100, .cells 258 [(u 0), (u 0), (u 0)]) ::
  (101, .cells 258 [(u 0), (u 0), (u 0)]) ::
  (102, .cells 258 [(u 0), (u 0), (u 0)]) ::
  (2, .big .n) ::
  (1, .big .n) ::
  (0, .big .z) :: h
def F1h : Heap := F1h0 (F1h1 (F1h2 []))
def F1i : List Nat := [107, 37, 103, 104, 108, 110, 106, 105, 122, 16, 17, 35, 38, 39, 40, 36, 111, 112, 113, 114, 109, 116, 120, 14, 15, 11, 12, 13, 32, 34, 115, 18, 22, 26, 30, 41, 42, 43, 44, 45, 46, 47, 48, 49, 50, 51, 52, 53, 54, 55, 56, 57, 58, 59, 60, 61, 62, 63, 64, 65, 66, 67, 68, 69, 70, 71, 72, 73, 74, 75, 76, 77, 78, 79, 80, 81, 82, 83, 84, 85, 86, 87, 88, 89, 90, 91, 92, 93, 94, 95, 96, 97, 98, 99, 100, 101, 102, 2, 1, 0]
theorem F1_is : Heap.outs F1i F0h = some F1h := by kernel_rfl
/-- a fresh machine -/
theorem Sd.first {C : Ctx} {g N1 N2 : Nat} {T : Heap → Nat → Tree} {w : World} (h : Sd C g N1 N2 (fun h n => .need (h = F0h ∧ n = F0n) .stop) w) (hd : (T F1h F0n).den fun _ _ => False) : Sd C g N1 N2 T w := by
  obtain ⟨ρ, h, n, hH, hbd, hI, ⟨rfl, rfl⟩, _⟩ := h
  exact ⟨ρ, F1h, F0n, hH.outs F1_is, hbd, hI, hd⟩
end SX
end Go.Proofs.YtnjaaagiindclaaGreatDoor

/-
  SX: a call that was reckoned at a part of a heap, as a contract: the rest stays. No program in sight.
-/
namespace Go.Proofs.YtnjaaagiindclaaGreatDoor
open Go.RowKit Go.Deep
namespace SX
/-- some objects of a heap, in order, and the others -/
def Heap.part : List Nat → Heap → Option (Heap × Heap)
  | [], h => some ([], h)
  | b :: l, h => (match Heap.out h b with
    | some p => (match Heap.part l p.2 with
      | some q => some ((b, p.1) :: q.1, q.2)
      | none => none)
    | none => none)
theorem Reps.part {𝔅 : BigRep} {ρ : Ren} : ∀ {l : List Nat} {h : Heap} {q : Heap × Heap} {Gs : List Grp}, Heap.part l h = some q → Reps 𝔅 ρ h Gs → ∃ Ks Js, Reps 𝔅 ρ q.1 Ks ∧ Reps 𝔅 ρ q.2 Js ∧ Gs.Perm (Ks ++ Js)
  | [], h, q, Gs, e, r => by cases e; exact ⟨[], Gs, rfl, r, .refl _⟩
  | b :: l, h, q, Gs, e, r => by
    unfold Heap.part at e
    split at e
    next p hp =>
      split at e
      next q' hq =>
        cases e
        obtain ⟨G, Ks, h1, h2, h3⟩ := Reps.out hp r
        obtain ⟨As, Js, h4, h5, h6⟩ := Reps.part hq h2
        exact ⟨G :: As, Js, ⟨G, As, rfl, h1, h4⟩, h5, h3.trans (h6.cons _)⟩
      · cases e
    · cases e
theorem Reps.app {𝔅 : BigRep} {ρ : Ren} : ∀ {h k : Heap} {Gs Ks : List Grp}, Reps 𝔅 ρ h Gs → Reps 𝔅 ρ k Ks → Reps 𝔅 ρ (h ++ k) (Gs ++ Ks)
  | [], k, Gs, Ks, r, s => by cases r; exact s
  | x :: h, k, Gs, Ks, r, s => by
    obtain ⟨G, Js, rfl, r1, r2⟩ := r
    exact ⟨G, Js ++ Ks, rfl, r1, Reps.app r2 s⟩
/-- a contract of one call at a part of a heap, whatever the rest is -/
noncomputable def locSpec (ids : List Nat) (a0 : List SV) (h0 : Heap) (n0 : Nat) (x : SV) (h1 : Heap) (n1 : Nat) : Spec := fun args h n K =>
  if beqL args a0 && Nat.ble n n0 then (match Heap.part ids h with
    | some q => if beqH q.1 h0 then K true x (h1 ++ q.2) n1 else .fail 1011
    | none => .fail 1012) else .fail 1013
noncomputable def locB (ids : List Nat) (a0 : List SV) (h0 : Heap) : List SV → Heap → Bool := fun args h => beqL args a0 && (match Heap.part ids h with | some q => beqH q.1 h0 | none => false)
theorem loc_ok {P : Program} {𝔅 : BigRep} {f : FuncId} {sp : Spec} (hs : SpecEnters P 𝔅 f sp) {ids : List Nat} {a0 : List SV} {h0 : Heap} {n0 : Nat} {x : SV} {h1 : Heap} {n1 : Nat} (ht : (sp a0 h0 n0 tellK).sure (isRes x h1 n1) = true) :
    SpecEnters P 𝔅 f (locSpec ids a0 h0 n0 x h1 n1) where
  enter := hs.enter
  calls := by
    intro C Q args h n K hB hk ρ w vs hv hH hbd
    unfold locSpec at hk
    split at hk
    next he =>
      simp only [Bool.and_eq_true] at he
      obtain ⟨e1, e3⟩ := he
      have := beqL_eq _ _ e1
      subst this
      have hn := Nat.le_of_ble_eq_true e3
      split at hk
      next q hq =>
        split at hk
        next e2 =>
          have e2 := beqH_eq _ _ e2
          obtain ⟨Gs, hr, hp⟩ := hH
          obtain ⟨Ks, Js, h2, h3, h4⟩ := Reps.part hq hr
          have hH0 : Holds ⟨C.I, Js ++ C.R, C.B⟩ ρ h0 w := ⟨Ks, e2 ▸ h2, by
            have h5 := hp.permG (h4.append_right C.R)
            rw [List.append_assoc] at h5
            exact h5⟩
          have key := hs.calls ⟨C.I, Js ++ C.R, C.B⟩ (fun e st => e = .r ∧ sget st.tm 0 = x ∧ subH st.hp h1 = true ∧ st.nx = n1) args h0 n0 tellK hB
            (Tree.sure_den (fun e st hok => by
              simp only [isRes, Bool.and_eq_true] at hok
              obtain ⟨⟨⟨h1, h2⟩, h3⟩, h4⟩ := hok
              refine ⟨?_, SV.beq_eq _ _ h2, h3, Nat.eq_of_beq_eq_true h4⟩
              cases e <;> first | rfl | cases h1) ht) ρ w vs hv hH0 (hbd.mono hn)
          refine key.mono ?_
          rintro e w' ⟨b, v, y, h', n', ρ', rfl, hv', hH', hle, hbd', hden⟩
          have hden' : (if b then Ex.r else Ex.p y) = Ex.r ∧ sget (setsS 0 [y] (blank 1)) 0 = x ∧ subH h' h1 = true ∧ n' = n1 := hden
          obtain ⟨hb, hx, hsub, rfl⟩ := hden'
          obtain ⟨Gs', hr', hp'⟩ := Holds.sub hsub hH'
          have hb' : b = true := by cases b with
            | true => rfl
            | false => simp at hb
          subst hb'
          have hy : y = x := hx
          subst hy
          refine ⟨true, v, y, _, _, ρ', rfl, hv', ⟨Gs' ++ Js, Reps.app hr' (h3.mono hle), ?_⟩, hle, hbd', hk⟩
          rw [List.append_assoc]
          exact hp'
        · exact hk.elim
      · exact hk.elim
    · exact hk.elim
end SX
end Go.Proofs.YtnjaaagiindclaaGreatDoor

/-
  The page finder, where the first span of 1 pages is made.
-/
namespace Go.Proofs.YtnjaaagiindclaaGreatDoor
open Go.RowKit Go.Deep
namespace SX
/- L1s r: 19 objects of 19 -/
def L1sn : Nat := 1000
def L1sh0 (h : Heap) : Heap :=
  (37, .cells 141 [(q 16), (q 17), (q 35), (q 38), (.m 36), (q 39), (q 40), (q 41), (q 42), (q 43), (q 44), (q 45), (q 46), (q 47), (q 48), (q 49), (q 50), (q 51), (q 52), (q 53), (q 54), (q 55), (q 56), (q 57), (q 58), (q 59), (q 60), (q 61), (q 62), (q 63), (q 64), (q 65), (q 66), (q 67), (q 68), (q 69), (q 70), (q 71), (q 72), (q 73), (q 74), (q 75), (q 76), (q 77), (q 78), (q 79), (q 80), (q 81), (q 82), (q 83), (q 84), (q 85), (q 86), (q 87), (q 88), (q 89), (q 90), (q 91), (q 92), (q 93), (q 94), (q 95), (q 96), (q 97), (q 98), (q 99), (q 100), (q 101), (q 102), (u 0), (u 0)]) ::
  (16, .cells 181 [(.sl true 11 1 0 0 (.zr)), (.sl true 12 1 0 0 (.zr)), (.sl true 13 1 0 0 (.zr)), .ns, (u 0), .ns, (u 0), .ns, (u 0), (.m 14), (.m 15)]) ::
  (17, .cells 252 [.ns, (u 0), .ns, (u 0), .ns, (u 0), .ns, (u 0), (.sl true 32 1 0 4 (.o 33 0))]) ::
  (35, .cells 246 [.ns, (u 0), .ns, (.m 34)]) ::
  (36, mpi .i64 []) ::
  (38, .cells 256 [(j 1), .ns, .np, (j 0)]) ::
  (39, .cells 258 [(u 0), (u 0), (u 0)]) ::
  (11, .vec 22 1 [] (.c 0)) ::
  (12, .vec 4 1 [] (.c 0)) ::
  (13, .vec 22 1 [] (.c 0)) ::
  (14, mpi .u64 []) ::
  (15, mpi .u64 []) ::
  (32, .vec 304 1 [(.m 18), (.m 22), (.m 26), (.m 30)] (.o 33 0)) ::
  (34, mpi .u64 []) ::
  (18, mpi .u64 []) ::
  (22, mpi .u64 []) ::
  (26, mpi .u64 []) ::
  (30, mpi .u64 []) ::
  (0, .big .z) :: h
def L1sh : Heap := L1sh0 []
/- L1 r: 32 objects of 59 -/
def L1v : SV := (.tup [(u 512), (j 0)])
def L1n : Nat := 1056
def L1h0 (h : Heap) : Heap :=
  (1054, .vec 290 2 [(u 512), (u 513)] (.o 1055 0)) ::
  (1053, .vec 290 2 [] (.c 0)) ::
  (1050, .vec 304 1 [(.m 1036), (.m 1040), (.m 1044), (.m 1048)] (.o 1051 0)) ::
  (1048, mpi .u64 []) ::
  (1044, mpi .u64 []) ::
  (1040, mpi .u64 []) ::
  (1036, mpi .u64 []) ::
  (1035, .vec 290 2 [] (.c 0)) ::
  (1033, .vec 290 2 [(u 513), (u 1024)] (.o 1034 0)) ::
  (1031, .vec 290 2 [(u 513), (u 1024)] (.o 1032 0)) ::
  (1028, .vec 290 2 [(u 1), (u 2)] (.o 1029 0)) ::
  (1006, .vec 290 2 [(u 512), (u 1024)] (.o 1007 0)) ::
  (1004, .vec 290 2 [(u 512), (u 1024)] (.o 1005 0)) ::
  (37, .cells 141 [(q 16), (q 17), (q 35), (q 38), (.m 36), (q 39), (q 40), (q 41), (q 42), (q 43), (q 44), (q 45), (q 46), (q 47), (q 48), (q 49), (q 50), (q 51), (q 52), (q 53), (q 54), (q 55), (q 56), (q 57), (q 58), (q 59), (q 60), (q 61), (q 62), (q 63), (q 64), (q 65), (q 66), (q 67), (q 68), (q 69), (q 70), (q 71), (q 72), (q 73), (q 74), (q 75), (q 76), (q 77), (q 78), (q 79), (q 80), (q 81), (q 82), (q 83), (q 84), (q 85), (q 86), (q 87), (q 88), (q 89), (q 90), (q 91), (q 92), (q 93), (q 94), (q 95), (q 96), (q 97), (q 98), (q 99), (q 100), (q 101), (q 102), (u 1024), (u 0)]) ::
  (16, .cells 181 [(.sl true 11 1 0 0 (.zr)), (.sl true 12 1 0 0 (.zr)), (.sl true 13 1 0 0 (.zr)), (.sl true 1004 2 0 1 (.o 1005 0)), (u 512), (.sl true 1054 2 0 1 (.o 1055 0)), (u 1), (.sl true 1053 2 0 0 (.zr)), (u 0), (.m 14), (.m 15)]) ::
  (17, .cells 252 [(.sl true 1006 2 0 1 (.o 1007 0)), (u 512), (.sl true 1031 2 0 1 (.o 1032 0)), (u 511), (.sl true 1033 2 0 1 (.o 1034 0)), (u 511), (.sl true 1035 2 0 0 (.zr)), (u 0), (.sl true 1050 1 0 4 (.o 1051 0))]) ::
  (35, .cells 246 [(.sl true 1028 2 0 1 (.o 1029 0)), (u 1), .ns, (.m 34)]) ::
  (36, mpi .i64 []) ::
  (38, .cells 256 [(j 1), .ns, .np, (j 0)]) ::
  (39, .cells 258 [(u 0), (u 0), (u 0)]) ::
  (11, .vec 22 1 [] (.c 0)) ::
  (12, .vec 4 1 [] (.c 0)) ::
  (13, .vec 22 1 [] (.c 0)) ::
  (14, mpi .u64 []) ::
  (15, mpi .u64 []) ::
  (32, .vec 304 1 [(.m 18), (.m 22), (.m 26), (.m 30)] (.o 33 0)) ::
  (34, mpi .u64 []) ::
  (18, mpi .u64 []) ::
  (22, mpi .u64 []) ::
  (26, mpi .u64 []) ::
  (30, mpi .u64 []) ::
  (0, .big .z) :: h
def L1h : Heap := L1h0 []
def L1i : List Nat := [37, 16, 17, 35, 36, 38, 39, 11, 12, 13, 14, 15, 32, 34, 18, 22, 26, 30, 0]
def L1a : List SV := [.p 37 (.c 0), .l .i64 0, .l .u64 1]
set_option maxRecDepth 100000 in
theorem L1_sure : (runP Tryz.prog wtI 164 Tryz.f164 L1a L1sh L1sn tellK).sure (isRes L1v L1h L1n) = true := by kernel_rfl
noncomputable def L1p : Spec := locSpec L1i L1a L1sh L1sn L1v L1h L1n
theorem L1_ok {W : World} (hL : Laid W) (lo hi : Nat) : SpecEnters Tryz.prog (numB W lo hi) 164 L1p := loc_ok (runP_ok fit (wtI_ok hL lo hi) Tryz.func164 (by kernel_rfl)) L1_sure
end SX
end Go.Proofs.YtnjaaagiindclaaGreatDoor

/-
  The page finder, where the first span of 2 pages is made.
-/
namespace Go.Proofs.YtnjaaagiindclaaGreatDoor
open Go.RowKit Go.Deep
namespace SX
/- L2s r: 19 objects of 19 -/
def L2sn : Nat := 1000
def L2sh0 (h : Heap) : Heap :=
  (37, .cells 141 [(q 16), (q 17), (q 35), (q 38), (.m 36), (q 39), (q 40), (q 41), (q 42), (q 43), (q 44), (q 45), (q 46), (q 47), (q 48), (q 49), (q 50), (q 51), (q 52), (q 53), (q 54), (q 55), (q 56), (q 57), (q 58), (q 59), (q 60), (q 61), (q 62), (q 63), (q 64), (q 65), (q 66), (q 67), (q 68), (q 69), (q 70), (q 71), (q 72), (q 73), (q 74), (q 75), (q 76), (q 77), (q 78), (q 79), (q 80), (q 81), (q 82), (q 83), (q 84), (q 85), (q 86), (q 87), (q 88), (q 89), (q 90), (q 91), (q 92), (q 93), (q 94), (q 95), (q 96), (q 97), (q 98), (q 99), (q 100), (q 101), (q 102), (u 0), (u 0)]) ::
  (16, .cells 181 [(.sl true 11 1 0 0 (.zr)), (.sl true 12 1 0 0 (.zr)), (.sl true 13 1 0 0 (.zr)), .ns, (u 0), .ns, (u 0), .ns, (u 0), (.m 14), (.m 15)]) ::
  (17, .cells 252 [.ns, (u 0), .ns, (u 0), .ns, (u 0), .ns, (u 0), (.sl true 32 1 0 4 (.o 33 0))]) ::
  (35, .cells 246 [.ns, (u 0), .ns, (.m 34)]) ::
  (36, mpi .i64 []) ::
  (38, .cells 256 [(j 1), .ns, .np, (j 0)]) ::
  (39, .cells 258 [(u 0), (u 0), (u 0)]) ::
  (11, .vec 22 1 [] (.c 0)) ::
  (12, .vec 4 1 [] (.c 0)) ::
  (13, .vec 22 1 [] (.c 0)) ::
  (14, mpi .u64 []) ::
  (15, mpi .u64 []) ::
  (32, .vec 304 1 [(.m 18), (.m 22), (.m 26), (.m 30)] (.o 33 0)) ::
  (34, mpi .u64 []) ::
  (18, mpi .u64 []) ::
  (22, mpi .u64 []) ::
  (26, mpi .u64 []) ::
  (30, mpi .u64 []) ::
  (0, .big .z) :: h
def L2sh : Heap := L2sh0 []
/- L2 r: 32 objects of 59 -/
def L2v : SV := (.tup [(u 512), (j 0)])
def L2n : Nat := 1056
def L2h0 (h : Heap) : Heap :=
  (1054, .vec 290 2 [(u 512), (u 514)] (.o 1055 0)) ::
  (1053, .vec 290 2 [] (.c 0)) ::
  (1050, .vec 304 1 [(.m 1036), (.m 1040), (.m 1044), (.m 1048)] (.o 1051 0)) ::
  (1048, mpi .u64 []) ::
  (1044, mpi .u64 []) ::
  (1040, mpi .u64 []) ::
  (1036, mpi .u64 []) ::
  (1035, .vec 290 2 [] (.c 0)) ::
  (1033, .vec 290 2 [(u 514), (u 1024)] (.o 1034 0)) ::
  (1031, .vec 290 2 [(u 514), (u 1024)] (.o 1032 0)) ::
  (1028, .vec 290 2 [(u 1), (u 2)] (.o 1029 0)) ::
  (1006, .vec 290 2 [(u 512), (u 1024)] (.o 1007 0)) ::
  (1004, .vec 290 2 [(u 512), (u 1024)] (.o 1005 0)) ::
  (37, .cells 141 [(q 16), (q 17), (q 35), (q 38), (.m 36), (q 39), (q 40), (q 41), (q 42), (q 43), (q 44), (q 45), (q 46), (q 47), (q 48), (q 49), (q 50), (q 51), (q 52), (q 53), (q 54), (q 55), (q 56), (q 57), (q 58), (q 59), (q 60), (q 61), (q 62), (q 63), (q 64), (q 65), (q 66), (q 67), (q 68), (q 69), (q 70), (q 71), (q 72), (q 73), (q 74), (q 75), (q 76), (q 77), (q 78), (q 79), (q 80), (q 81), (q 82), (q 83), (q 84), (q 85), (q 86), (q 87), (q 88), (q 89), (q 90), (q 91), (q 92), (q 93), (q 94), (q 95), (q 96), (q 97), (q 98), (q 99), (q 100), (q 101), (q 102), (u 1024), (u 0)]) ::
  (16, .cells 181 [(.sl true 11 1 0 0 (.zr)), (.sl true 12 1 0 0 (.zr)), (.sl true 13 1 0 0 (.zr)), (.sl true 1004 2 0 1 (.o 1005 0)), (u 512), (.sl true 1054 2 0 1 (.o 1055 0)), (u 2), (.sl true 1053 2 0 0 (.zr)), (u 0), (.m 14), (.m 15)]) ::
  (17, .cells 252 [(.sl true 1006 2 0 1 (.o 1007 0)), (u 512), (.sl true 1031 2 0 1 (.o 1032 0)), (u 510), (.sl true 1033 2 0 1 (.o 1034 0)), (u 510), (.sl true 1035 2 0 0 (.zr)), (u 0), (.sl true 1050 1 0 4 (.o 1051 0))]) ::
  (35, .cells 246 [(.sl true 1028 2 0 1 (.o 1029 0)), (u 1), .ns, (.m 34)]) ::
  (36, mpi .i64 []) ::
  (38, .cells 256 [(j 1), .ns, .np, (j 0)]) ::
  (39, .cells 258 [(u 0), (u 0), (u 0)]) ::
  (11, .vec 22 1 [] (.c 0)) ::
  (12, .vec 4 1 [] (.c 0)) ::
  (13, .vec 22 1 [] (.c 0)) ::
  (14, mpi .u64 []) ::
  (15, mpi .u64 []) ::
  (32, .vec 304 1 [(.m 18), (.m 22), (.m 26), (.m 30)] (.o 33 0)) ::
  (34, mpi .u64 []) ::
  (18, mpi .u64 []) ::
  (22, mpi .u64 []) ::
  (26, mpi .u64 []) ::
  (30, mpi .u64 []) ::
  (0, .big .z) :: h
def L2h : Heap := L2h0 []
def L2i : List Nat := [37, 16, 17, 35, 36, 38, 39, 11, 12, 13, 14, 15, 32, 34, 18, 22, 26, 30, 0]
def L2a : List SV := [.p 37 (.c 0), .l .i64 0, .l .u64 2]
set_option maxRecDepth 100000 in
theorem L2_sure : (runP Tryz.prog wtI 164 Tryz.f164 L2a L2sh L2sn tellK).sure (isRes L2v L2h L2n) = true := by kernel_rfl
noncomputable def L2p : Spec := locSpec L2i L2a L2sh L2sn L2v L2h L2n
theorem L2_ok {W : World} (hL : Laid W) (lo hi : Nat) : SpecEnters Tryz.prog (numB W lo hi) 164 L2p := loc_ok (runP_ok fit (wtI_ok hL lo hi) Tryz.func164 (by kernel_rfl)) L2_sure
end SX
end Go.Proofs.YtnjaaagiindclaaGreatDoor

/-
  The contracts of closed runs, with the page finder where the first span is made. The table of TrailingZeros64 lies.
-/
namespace Go.Proofs.YtnjaaagiindclaaGreatDoor
open Go.RowKit Go.Deep
namespace SX
noncomputable def finS : Spec := pickS (locB L1i L1a L1sh) L1p (pickS (locB L2i L2a L2sh) L2p (runP Tryz.prog wtI 164 Tryz.f164))
noncomputable def wtF2 : List (FuncId × Spec) := (164, finS) :: wtI
theorem finS_ok {W : World} (hL : Laid W) (lo hi : Nat) : SpecEnters Tryz.prog (numB W lo hi) 164 finS := pickS_ok (L1_ok hL lo hi) (pickS_ok (L2_ok hL lo hi) (runP_ok fit (wtI_ok hL lo hi) Tryz.func164 (by kernel_rfl)))
theorem wtF2_ok {W : World} (hL : Laid W) (lo hi : Nat) : ∀ x ∈ wtF2, SpecOk Tryz.prog (numB W lo hi) x.1 x.2 := cons_ok (.inl (finS_ok hL lo hi)) (wtI_ok hL lo hi)
end SX
end Go.Proofs.YtnjaaagiindclaaGreatDoor
