/-
  Part 15 of what the statement leans on: OneS, OneT, OneU, LeafS, Wt2, WF0, SxT, SxU, Num, Tz, Run, St2, Ps, Spa, Spb, WtA.
-/
import Derived.Test.YtnjaaagiindclaaGreatDoorPk9
import Derived.Test.YtnjaaagiindclaaGreatDoorPk10
import Derived.Test.YtnjaaagiindclaaGreatDoorPk11
import Derived.Test.YtnjaaagiindclaaGreatDoorPk12
import Derived.Test.YtnjaaagiindclaaGreatDoorPk13
import Derived.Test.YtnjaaagiindclaaGreatDoorPk14
import Derived.Shelf.Spec.TrailingZeros
import Derived.Lib.LaidTab
import Derived.Deep.LoopGhost
/-
  SX: sets of numbers: at, Has, Count, Cut as contracts.
-/
namespace Go.Proofs.YtnjaaagiindclaaGreatDoor
open Go.RowKit Go.Deep
namespace One
/-- where x would stand -/
def atP (x : Nat) : List P2 → Nat
  | [] => 0
  | e :: l => if Nat.ble e.2 x then atP x l + 1 else 0
theorem atP_is {l : List P2} (h : Can l) (x : Nat) : AtIs l x (atP x l) := by
  induction l with
  | nil => exact ⟨Nat.le_refl _, by simp, by simp⟩
  | cons e l ih =>
    have hl : Can l := ⟨fun y hy => h.ok y (List.mem_cons_of_mem _ hy), (List.pairwise_cons.1 h.ord).2⟩
    obtain ⟨i1, i2, i3⟩ := ih hl
    simp only [atP]
    split
    next hb =>
      have hb := Nat.le_of_ble_eq_true hb
      refine ⟨by simp only [List.length_cons]; omega, fun i y hi hy => ?_, fun i y hi hy => ?_⟩
      · cases i with
        | zero => simp at hy; subst hy; exact hb
        | succ i => exact i2 i y (by omega) (by simpa using hy)
      · cases i with
        | zero => omega
        | succ i => exact i3 i y (by omega) (by simpa using hy)
    next hb =>
      have hb : ¬ e.2 ≤ x := fun hh => hb (Nat.ble_eq_true_of_le hh)
      refine ⟨Nat.zero_le _, fun i y hi => by omega, fun i y _ hy => ?_⟩
      cases i with
      | zero => simp at hy; subst hy; omega
      | succ i =>
        have h1 := (List.pairwise_cons.1 h.ord).1 y (List.mem_of_getElem? (by simpa using hy))
        have h2 := h.ok y (List.mem_cons_of_mem _ (List.mem_of_getElem? (by simpa using hy)))
        omega
def canB : List P2 → Bool
  | [] => true
  | e :: l => Nat.blt e.1 e.2 && (Nat.ble e.2 18446744073709551615 && ((match l with | [] => true | x :: _ => Nat.blt e.2 x.1) && canB l))
theorem canB_is : ∀ {l : List P2}, canB l = true → Can l
  | [], _ => ⟨by simp, by simp⟩
  | e :: l, h => by
    simp only [canB, Bool.and_eq_true, Nat.blt_eq] at h
    obtain ⟨h1, h2, h3, h4⟩ := h
    have hc := canB_is h4
    have h2 := Nat.le_of_ble_eq_true h2
    refine ⟨fun x hx => ?_, List.pairwise_cons.2 ⟨fun x hx => ?_, hc.ord⟩⟩
    · rcases List.mem_cons.1 hx with rfl | hx
      · exact ⟨h1, h2⟩
      · exact hc.ok x hx
    · cases l with
      | nil => cases hx
      | cons y l =>
        simp only [Nat.blt_eq] at h3
        rcases List.mem_cons.1 hx with rfl | hx
        · exact h3
        · have := (List.pairwise_cons.1 hc.ord).1 x hx
          have := hc.ok y (by simp)
          omega
end One
namespace SX
open Go.Proofs.YtnjaaagiindclaaGreatDoor.One
def natL : SV → Option Nat
  | .l k z => (match z with
    | .ofNat u => if isK k .u64 then some u else none
    | .negSucc _ => none)
  | _ => none
theorem natL_is {x : SV} {u : Nat} (h : natL x = some u) : x = .l .u64 (u : Int) := by
  cases x with
  | l k z =>
    cases z with
    | ofNat n =>
      have h' : (if isK k .u64 then some n else none) = some u := h
      split at h'
      next e => injection h' with h'; rw [isK_eq e, h']; rfl
      · cases h'
    | negSucc n => cases h
  | _ => cases h
def twos : Nat → List SV → Option (List P2)
  | 0, _ => some []
  | n + 1, l => (match l with
    | a :: r => (match r with
      | b :: r => (match natL a with
        | some x => (match natL b with
          | some y => (match twos n r with
            | some z => some ((x, y) :: z)
            | none => none)
          | none => none)
        | none => none)
      | [] => none)
    | [] => none)
def svs : List P2 → List SV
  | [] => []
  | e :: l => .l .u64 (e.1 : Int) :: .l .u64 (e.2 : Int) :: svs l
theorem twos_is : ∀ {n : Nat} {cs : List SV} {l : List P2}, twos n cs = some l → l.length = n ∧ ∃ r, cs = svs l ++ r
  | 0, cs, l, h => by
    injection h with h
    subst h
    exact ⟨rfl, cs, rfl⟩
  | n + 1, cs, l, h => by
    simp only [twos] at h
    split at h
    next a r =>
      split at h
      next b r =>
        split at h
        next x hx =>
          split at h
          next y hy =>
            split at h
            next z hz =>
              injection h with h
              subst h
              obtain ⟨h1, q, rfl⟩ := twos_is hz
              exact ⟨by simp [h1], q, by rw [natL_is hx, natL_is hy]; rfl⟩
            · cases h
          · cases h
        · cases h
      · cases h
    · cases h
theorem svs_rel {ρ : Ren} : ∀ {l : List P2} {vs : List Value}, RelL ρ (svs l) vs → vs = One.enc l
  | [], vs, h => h
  | e :: l, vs, h => by
    simp only [svs, RelL, SV.Rel] at h
    obtain ⟨a, r, rfl, rfl, b, q, rfl, rfl, h⟩ := h
    rw [svs_rel h]
    rfl
theorem rel_svs {ρ : Ren} : ∀ (l : List P2), RelL ρ (svs l) (One.enc l)
  | [] => .nil
  | e :: l => .cons (by simp only [SV.Rel]) (.cons (by simp only [SV.Rel]) (rel_svs l))
theorem svs_len (l : List P2) : (svs l).length = l.length * 2 := by
  induction l with
  | nil => rfl
  | cons e l ih => simp only [svs, List.length_cons, ih]; omega
/-- the row that a slice reads -/
noncomputable def setOf (h : Heap) (x : SV) : Option (List P2) := match x with
  | .ns => some []
  | .sl _ r sz frm len _ => if Nat.beq len 0 then some [] else if Nat.beq sz 2 && Nat.beq frm 0 then (match h.get r with
    | some o => (match o with
      | .vec T sz' cs _ => if Nat.beq T 290 && Nat.beq sz' 2 then twos len cs else none
      | _ => none)
    | none => none) else none
  | _ => none
theorem setOf_is {C : Ctx} {ρ : Ren} {h : Heap} {w : World} (H : Holds C ρ h w) {x : SV} {l : List P2} (hs : setOf h x = some l) {v : Value} (hv : x.Rel ρ v) : Rd w 2 v l.length (enc l) ∧ (l = [] ∨ ∀ a, (∃ k, v = .slice (some a) l.length k) → ∃ c, w.heap[a.block]? = some (.cells c 290 (0, 0))) := by
  cases x with
  | ns =>
    injection hs with hs
    subst hs
    simp only [SV.Rel] at hv
    subst hv
    exact ⟨⟨none, 0, rfl, Nat.le_refl _, rfl, fun _ => rfl, by simp [enc]⟩, .inl rfl⟩
  | sl lit r sz frm len cap =>
    simp only [SV.Rel] at hv
    obtain ⟨a, c, rfl, hi, hl, hb⟩ := hv
    have hs' : (if Nat.beq len 0 then some [] else if Nat.beq sz 2 && Nat.beq frm 0 then (match h.get r with
      | some o => (match o with
        | .vec T sz' cs _ => if Nat.beq T 290 && Nat.beq sz' 2 then twos len cs else none
        | _ => none)
      | none => none) else none) = some l := hs
    split at hs'
    next e0 =>
      have e0 := Nat.eq_of_beq_eq_true e0
      subst e0
      injection hs' with hs'
      subst hs'
      refine ⟨⟨a, c, rfl, Nat.zero_le _, rfl, fun ha => ?_, by simp [enc]⟩, .inl rfl⟩
      rcases Nat.eq_zero_or_pos c with h0 | h0
      · exact h0
      · obtain ⟨g, _, h1⟩ := hb (Cap.hasB_of hi h0)
        rw [ha] at h1; cases h1 (.inl h0)
    next e0 =>
      split at hs'
      next e1 =>
        simp only [Bool.and_eq_true] at e1
        have e2 := Nat.eq_of_beq_eq_true e1.1
        have e3 := Nat.eq_of_beq_eq_true e1.2
        subst e2 e3
        split at hs'
        next o ho =>
          split at hs'
          next T sz' cs cap' =>
            split at hs'
            next e4 =>
              simp only [Bool.and_eq_true] at e4
              have e5 := Nat.eq_of_beq_eq_true e4.1
              have e6 := Nat.eq_of_beq_eq_true e4.2
              subst e5 e6
              obtain ⟨hlen, rr, rfl⟩ := twos_is hs'
              have hpos : 0 < len := Nat.pos_of_ne_zero fun e => e0 (by rw [e]; rfl)
              have hc0 : 0 < c := by omega
              obtain ⟨g, hg, h1⟩ := hb (Cap.hasB_of hi hc0)
              obtain ⟨G, R', ⟨z, hz, q1, q2, q3⟩, hp, _⟩ := H.focus ho
              have hlr : (svs l ++ rr).length = l.length * 2 + rr.length := by rw [List.length_append, svs_len]
              rcases q3 with ⟨z0, _⟩ | ⟨g', c', hg', rfl, hsz, hrel⟩
              · omega
              · have eg := hg.symm.trans hg'
                injection eg with eg
                subst eg
                have ha := h1 (.inl hc0)
                rw [Nat.zero_mul] at ha
                subst ha
                obtain ⟨us, ws, e7, r1, _⟩ := hrel.split
                have e8 := svs_rel r1
                subst e8
                refine ⟨⟨some ⟨g, 0, none⟩, c, by rw [hlen], by omega, enc_len _, (fun e => by cases e), fun j u hj => ⟨_, rfl, ?_⟩⟩, .inr fun a hk => ?_⟩
                · have hj2 : j < (enc l).length := (List.getElem?_eq_some_iff.1 hj).1
                  have : c'.toList[j]? = some u := by
                    have h9 : (c'.toList.take (svs l ++ rr).length)[j]? = some u := by
                      rw [e7, List.getElem?_append_left hj2]; exact hj
                    rw [List.getElem?_take] at h9
                    split at h9
                    · exact h9
                    · cases h9
                  have e9 : (⟨g, 0, none⟩ : Addr).add j = ⟨g, j, none⟩ := by
                    unfold Addr.add
                    split
                    next h0 => rw [h0]
                    next h0 => simp
                  rw [e9, hp.cell j, ← Array.getElem?_toList]
                  exact this
                · obtain ⟨k, hk⟩ := hk
                  injection hk with hk1 _ _
                  injection hk1 with hk1
                  subst hk1
                  exact ⟨c', hp.blk⟩
            · cases hs'
          · cases hs'
        · cases hs'
      · cases hs'
  | _ => cases hs
end SX
end Go.Proofs.YtnjaaagiindclaaGreatDoor

/-
  SX: sets of numbers: the contracts.
-/
namespace Go.Proofs.YtnjaaagiindclaaGreatDoor
open Go.RowKit Go.Deep
namespace SX
open Go.Proofs.YtnjaaagiindclaaGreatDoor.One
/-- a set in a block of cells: the block's type, its cells, the numbers, how many -/
noncomputable def setAt (h : Heap) (b o : Nat) (k : TypeId → List SV → List P2 → Nat → Tree) : Tree := match h.get b with
  | some ob => (match ob with
    | .cells t cs => if Nat.blt (o + 1) cs.length && !Nat.beq t 290 then (match setOf h (lget cs o) with
      | some l => (match natL (lget cs (o + 1)) with
        | some s => if canB l && (Nat.blt l.length 1000000 && Nat.ble s 18446744073709551615) then k t cs l s else .fail 721
        | none => .fail 722)
      | none => .fail 723) else .fail 724
    | _ => .fail 725)
  | none => .fail 726
theorem setAt_den {Q : Ex → St → Prop} {h : Heap} {b o : Nat} {k : TypeId → List SV → List P2 → Nat → Tree} (hd : (setAt h b o k).den Q) : ∃ (t : TypeId) (cs : List SV) (l : List P2) (s : Nat), h.get b = some (.cells t cs) ∧ o + 1 < cs.length ∧ (t : Nat) ≠ 290 ∧ setOf h (lget cs o) = some l ∧ lget cs (o + 1) = .l .u64 (s : Int) ∧ One.Can l ∧ l.length ≤ 1000000 ∧ s ≤ 18446744073709551615 ∧ (k t cs l s).den Q := by
  unfold setAt at hd
  split at hd <;> try exact hd.elim
  split at hd <;> try exact hd.elim
  split at hd <;> try exact hd.elim
  split at hd <;> try exact hd.elim
  split at hd <;> try exact hd.elim
  split at hd <;> try exact hd.elim
  rename_i t cs hob hc1 o1 l hl o2 s hs hc2
  simp only [Bool.and_eq_true, Nat.blt_eq, Bool.not_eq_true'] at hc1 hc2
  refine ⟨t, cs, l, s, hob, hc1.1, fun e => ?_, hl, natL_is hs, canB_is hc2.1, by omega, Nat.le_of_ble_eq_true hc2.2.2, hd⟩
  have := hc1.2
  rw [e] at this
  simp at this
theorem setAt_in {C : Ctx} {ρ : Ren} {h : Heap} {w : World} {b o g : Nat} {t : TypeId} {cs : List SV} {l : List P2} {s : Nat} (H : Holds C ρ h w) (hg : ρ b = some g) (hb : h.get b = some (.cells t cs)) (ho : o + 1 < cs.length) (ht : (t : Nat) ≠ 290)
    (hl : setOf h (lget cs o) = some l) (hs : lget cs (o + 1) = .l .u64 (s : Int)) (hc : One.Can l) (hn : l.length ≤ 1000000) : ∃ c v, SetIn w g o c t v s l ∧ RelL ρ cs c.toList := by
  obtain ⟨G, R', ⟨g', c, hg', rfl, hrel⟩, hp, _⟩ := H.focus hb
  have eg := hg.symm.trans hg'
  injection eg with eg
  subst eg
  obtain ⟨v, hv, hv2⟩ := hrel.get? (i := o) (by omega)
  obtain ⟨u, hu, hu2⟩ := hrel.get? ho
  rw [hs] at hu2
  simp only [SV.Rel] at hu2
  subst hu2
  obtain ⟨h1, h2⟩ := setOf_is H hl hv2
  refine ⟨c, v, ⟨hp.blk, by rw [← Array.getElem?_toList]; exact hv, by rw [← Array.getElem?_toList]; exact hu, h1, ?_, hc, hn⟩, hrel⟩
  refine h2.imp (fun x => x) fun h2 a ha e => ?_
  obtain ⟨c2, hc2⟩ := h2 a ha
  rw [e, hp.blk] at hc2
  injection hc2 with hc2
  injection hc2 with _ hc2 _
  exact ht hc2
/-- words that only read -/
noncomputable def readS (f : List P2 → Option SV) (a : SV) (h : Heap) (n : Nat) (K : Bool → SV → Heap → Nat → Tree) : Tree := match a with
  | .p b o => (match o with
    | .c o => setAt h b o fun _ _ l _ => (match f l with
      | some v => K true v h n
      | none => .fail 731)
    | _ => .fail 732)
  | _ => .fail 733
noncomputable def spAt : Spec := fun args h n K => match args with
  | [a, x] => (match natL x with
    | some x => readS (fun l => some (.l .i64 (atP x l : Nat))) a h n K
    | none => .fail 734)
  | _ => .fail 735
noncomputable def spHas : Spec := fun args h n K => match args with
  | [a, x] => (match natL x with
    | some x => readS (fun l => some (match l[atP x l]? with | some e => (if Nat.ble e.1 x then .tt else .ff) | none => .ff)) a h n K
    | none => .fail 734)
  | _ => .fail 735
noncomputable def spCount : Spec := fun args h n K => match args with
  | [a, x, y] => (match natL x with
    | some x => (match natL y with
      | some y => readS (fun l => if Nat.blt x y && Nat.ble y 18446744073709551615 then some (.l .u64 (cntR x y (l.drop (atP x l)) : Nat)) else none) a h n K
      | none => .fail 736)
    | none => .fail 734)
  | _ => .fail 735
theorem readS_den {Q : Ex → St → Prop} {f : List P2 → Option SV} {a : SV} {h : Heap} {n : Nat} {K : Bool → SV → Heap → Nat → Tree} (hd : (readS f a h n K).den Q) {C : Ctx} {ρ : Ren} {w : World} (H : Holds C ρ h w) {v : Value} (hv : a.Rel ρ v) :
    ∃ g o c t u s l x, v = .pointer (some ⟨g, o, none⟩) ∧ SetIn w g o c t u s l ∧ f l = some x ∧ (K true x h n).den Q := by
  unfold readS at hd
  split at hd <;> try exact hd.elim
  split at hd <;> try exact hd.elim
  rename_i b o' o
  obtain ⟨t, cs, l, s, h1, h2, h3, h4, h5, h6, h7, _, hd⟩ := setAt_den hd
  simp only [SV.Rel] at hv
  obtain ⟨g, hg, rfl⟩ := hv
  obtain ⟨c, u, hin, _⟩ := setAt_in H hg h1 h2 h3 h4 h5 h6 h7
  split at hd
  next x hx => exact ⟨g, o, c, t, u, s, l, x, rfl, hin, hx, hd⟩
  · exact hd.elim
theorem spAt_ok (𝔅 : BigRep) : SpecEnters Tryz.prog 𝔅 206 spAt where
  enter := enter_of Tryz.func206 (bodyOf_eq (by kernel_rfl)) (by kernel_rfl)
  calls := by
    intro C Q args h n K hB hk ρ w vs hv hH hbd
    unfold spAt at hk
    split at hk <;> try exact hk.elim
    split at hk <;> try exact hk.elim
    rename_i a x' x hx
    obtain ⟨v1, _, e1, h1, v2, _, rfl, h2, rfl⟩ := hv
    rw [natL_is hx] at h2
    simp only [SV.Rel] at h2
    subst h2
    obtain ⟨g, o, c, t, u, s, l, y, rfl, hin, hf, hk⟩ := readS_den hk hH h1
    injection hf with hf
    subst hf
    have e2 : vs = #[.pointer (some ⟨g, o, none⟩), .int .u64 (x : Int)] := by rw [← Array.toList_inj, e1]
    subst e2
    refine (One.at_any w hin.at x).mono ?_
    rintro e w' ⟨r, rfl, hr, hf⟩
    have := hr.out.uniq (atP_is hin.can x)
    subst this
    exact ⟨true, _, _, h, n, ρ, rfl, by simp only [SV.Rel], hH.quiet hf.out, .refl _, hbd, hk⟩
theorem spHas_ok (𝔅 : BigRep) : SpecEnters Tryz.prog 𝔅 146 spHas where
  enter := enter_of Tryz.func146 (bodyOf_eq (by kernel_rfl)) (by kernel_rfl)
  calls := by
    intro C Q args h n K hB hk ρ w vs hv hH hbd
    unfold spHas at hk
    split at hk <;> try exact hk.elim
    split at hk <;> try exact hk.elim
    rename_i a x' x hx
    obtain ⟨v1, _, e1, h1, v2, _, rfl, h2, rfl⟩ := hv
    rw [natL_is hx] at h2
    simp only [SV.Rel] at h2
    subst h2
    obtain ⟨g, o, c, t, u, s, l, y, rfl, hin, hf, hk⟩ := readS_den hk hH h1
    injection hf with hf
    subst hf
    have e2 : vs = #[.pointer (some ⟨g, o, none⟩), .int .u64 (x : Int)] := by rw [← Array.toList_inj, e1]
    subst e2
    refine (One.has_any w hin.at x).mono ?_
    rintro e w' ⟨r, rfl, hr, hf⟩
    have := hr.out.uniq (atP_is hin.can x)
    subst this
    refine ⟨true, _, _, h, n, ρ, rfl, ?_, hH.quiet hf.out, .refl _, hbd, hk⟩
    cases l[atP x l]? with
    | none => simp only [SV.Rel]
    | some e =>
      simp only
      by_cases he : e.1 ≤ x
      · rw [if_pos (Nat.ble_eq_true_of_le he), decide_eq_true he]; simp only [SV.Rel]
      · rw [if_neg (fun hh => he (Nat.le_of_ble_eq_true hh)), decide_eq_false he]; simp only [SV.Rel]
theorem spCount_ok (𝔅 : BigRep) : SpecEnters Tryz.prog 𝔅 190 spCount where
  enter := enter_of Tryz.func190 (bodyOf_eq (by kernel_rfl)) (by kernel_rfl)
  calls := by
    intro C Q args h n K hB hk ρ w vs hv hH hbd
    unfold spCount at hk
    split at hk <;> try exact hk.elim
    split at hk <;> try exact hk.elim
    split at hk <;> try exact hk.elim
    rename_i a x' y' o1 x hx o2 y hy
    obtain ⟨v1, _, e1, h1, v2, _, rfl, h2, v3, _, rfl, h3, rfl⟩ := hv
    rw [natL_is hx] at h2
    rw [natL_is hy] at h3
    simp only [SV.Rel] at h2 h3
    subst h2 h3
    obtain ⟨g, o, c, t, u, s, l, z, rfl, hin, hf, hk⟩ := readS_den hk hH h1
    split at hf
    next hc =>
      simp only [Bool.and_eq_true, Nat.blt_eq] at hc
      injection hf with hf
      subst hf
      have e2 : vs = #[.pointer (some ⟨g, o, none⟩), .int .u64 (x : Int), .int .u64 (y : Int)] := by rw [← Array.toList_inj, e1]
      subst e2
      refine (One.count_any w hin.at x y hc.1 (Nat.le_of_ble_eq_true hc.2)).mono ?_
      rintro e w' ⟨r, rfl, hr, hf⟩
      have := hr.out.uniq (atP_is hin.can x)
      subst this
      exact ⟨true, _, _, h, n, ρ, rfl, by simp only [SV.Rel], hH.quiet hf.out, .refl _, hbd, hk⟩
    · cases hf
theorem hp_new {I w' : World} {Gs : List Grp} {N g : Nat} {o : Obj} (h : Hp I w' Gs) (hold : ∀ x ∈ Gs.flatten, x.1 < N) (hN : N ≤ g) (hg : w'.heap[g]? = some o) : Hp I w' ([(g, o)] :: Gs) := by
  refine ⟨h.io, ?_, fun x hx => ?_⟩
  · rw [List.flatten_cons, List.map_append]
    show (g :: Gs.flatten.map Prod.fst).Nodup
    rw [List.nodup_cons]
    refine ⟨fun hm => ?_, h.nd⟩
    obtain ⟨x, hx, he⟩ := List.mem_map.1 hm
    have := hold x hx
    omega
  · rw [List.flatten_cons, List.mem_append] at hx
    rcases hx with hx | hx
    · rw [List.mem_singleton.1 hx]; exact hg
    · exact h.has x hx
/-- a block of cells has turned; blocks that are new may be taken beside -/
theorem Holds.turned {C : Ctx} {ρ ρ' : Ren} {h : Heap} {w w' : World} {b g : Nat} {t : TypeId} {cs cs' : List SV} {c' : Array Value} (H : Holds C ρ h w) (hle : ρ.le ρ') (hg : ρ b = some g) (hb : h.get b = some (.cells t cs))
    (hf : Fr (fun x => x = g) w w') (hb' : w'.heap[g]? = some (.cells c' t (0, 0))) (hrel : RelL ρ' cs' c'.toList) : ∃ Gs, Reps C.B ρ' (h.set b (.cells t cs')) Gs ∧ Hp C.I w' (Gs ++ C.R) ∧ ∀ x ∈ (Gs ++ C.R).flatten, x.1 < w.heap.size := by
  obtain ⟨Gs, r, hp⟩ := H
  obtain ⟨pre, G, post, rfl, ⟨g', c0, hg', rfl, _⟩, r2⟩ := r.focus hb
  have eg := hg.symm.trans hg'
  injection eg with eg
  subst eg
  have hp1 : Hp C.I w ([(g, .cells c0 t (0, 0))] :: (pre ++ (post ++ C.R))) := hp.permG (by rw [List.append_assoc, List.cons_append]; exact List.perm_middle)
  have hp2 := hp1.put hf hb'
  refine ⟨pre ++ [(g, .cells c' t (0, 0))] :: post, r2 ρ' (.cells t cs') [(g, .cells c' t (0, 0))] hle ⟨g, c', hle _ _ hg, rfl, hrel⟩, hp2.permG (by rw [List.append_assoc, List.cons_append]; exact List.perm_middle.symm), fun x hx => ?_⟩
  have hlt : ∀ y ∈ ([(g, Obj.cells c0 t (0, 0))] :: (pre ++ (post ++ C.R))).flatten, y.1 < w.heap.size := fun y hy => hp1.lt hy
  simp only [List.flatten_append, List.flatten_cons, List.mem_append, List.mem_singleton] at hx hlt
  rcases hx with (h1 | h1 | h1) | h1
  · exact hlt x (.inr (.inl h1))
  · subst h1; exact hlt (g, .cells c0 t (0, 0)) (.inl rfl)
  · exact hlt x (.inr (.inr (.inl h1)))
  · exact hlt x (.inr (.inr (.inr h1)))
/-- Cut -/
noncomputable def spCut : Spec := fun args h n K => match args with
  | [a, x, y] => (match natL x with
    | some x => (match natL y with
      | some y => (match a with
        | .p b o => (match o with
          | .c o => setAt h b o fun t cs l s => if (Nat.blt x y && Nat.ble y 18446744073709551615) && Nat.ble (cntR x y (l.drop (atP x l))) s then
              K true (.tup []) ((n, .vec 290 2 (svs (l.take (atP x l) ++ (mids x y (l.drop (atP x l)) ++ tailR y (l.drop (atP x l))))) (.o (n + 1) 0)) ::
                h.set b (.cells t (lset (lset cs (o + 1) (.l .u64 (Int.ofNat (s - cntR x y (l.drop (atP x l)))))) o (.sl true n 2 0 (l.take (atP x l) ++ (mids x y (l.drop (atP x l)) ++ tailR y (l.drop (atP x l)))).length (.o (n + 1) 0))))) (n + 2) else .fail 741
          | _ => .fail 742)
        | _ => .fail 743)
      | none => .fail 744)
    | none => .fail 745)
  | _ => .fail 746
theorem spCut_ok (𝔅 : BigRep) : SpecEnters Tryz.prog 𝔅 187 spCut where
  enter := enter_of Tryz.func187 (bodyOf_eq (by kernel_rfl)) (by kernel_rfl)
  calls := by
    intro C Q args h n K hB hk ρ w vs hv hH hbd
    unfold spCut at hk
    split at hk <;> try exact hk.elim
    split at hk <;> try exact hk.elim
    split at hk <;> try exact hk.elim
    split at hk <;> try exact hk.elim
    split at hk <;> try exact hk.elim

    rename_i x' y' o1 x hx o2 y hy a b o' o
    obtain ⟨v1, _, e1, h1, v2, _, rfl, h2, v3, _, rfl, h3, rfl⟩ := hv
    rw [natL_is hx] at h2
    rw [natL_is hy] at h3
    simp only [SV.Rel] at h1 h2 h3
    subst h2 h3
    obtain ⟨g, hg, rfl⟩ := h1
    have e2 : vs = #[.pointer (some ⟨g, o, none⟩), .int .u64 (x : Int), .int .u64 (y : Int)] := by rw [← Array.toList_inj, e1]; rfl
    subst e2
    obtain ⟨t, cs, l, s, q1, q2, q3, q4, q5, q6, q7, q8, hd⟩ := setAt_den hk
    split at hd
    next hc =>
      simp only [Bool.and_eq_true, Nat.blt_eq] at hc
      obtain ⟨⟨hc1, hc2⟩, hc3⟩ := hc
      have hc2 := Nat.le_of_ble_eq_true hc2
      have hc3 := Nat.le_of_ble_eq_true hc3
      obtain ⟨c, u, hin, hrel⟩ := setAt_in hH hg q1 q2 q3 q4 q5 q6 q7
      refine (One.cut_any w hin x y hc1 hc2 (fun r hr => by rw [hr.uniq (atP_is q6 x)]; exact hc3) q8).mono ?_
      rintro e w' ⟨r, v', rfl, hq⟩
      obtain ⟨hr, hf, hb', hown⟩ := hq.out
      have := hr.uniq (atP_is q6 x)
      subst this
      generalize hL : l.take (atP x l) ++ (mids x y (l.drop (atP x l)) ++ tailR y (l.drop (atP x l))) = l' at hd hown
      generalize hS : s - cntR x y (l.drop (atP x l)) = s' at hd hb'
      have hs1 : SV.Rel ρ (.l .u64 (Int.ofNat s')) (.int .u64 (s' : Int)) := by simp only [SV.Rel]; rfl
      have fin : ∀ (g3 cap : Nat), (SV.sl true n 2 0 l'.length (.o (n + 1) 0)).Rel (upd (upd ρ n g3) (n + 1) cap) v' → (∀ Gs, Hp C.I w' (Gs ++ C.R) → (∀ x ∈ (Gs ++ C.R).flatten, x.1 < w.heap.size) → ∃ G, Rep C.B (upd (upd ρ n g3) (n + 1) cap) n (.vec 290 2 (svs l') (.o (n + 1) 0)) G ∧ Hp C.I w' (G :: (Gs ++ C.R))) →
          ∃ bb vv x h' n' ρ', Ending.returned (.tuple #[]) = Ended bb vv ∧ SV.Rel ρ' x vv ∧ Holds C ρ' h' w' ∧ ρ.le ρ' ∧ ρ'.bd n' ∧ (K bb x h' n').den Q := by
        intro g3 cap hsl hG
        have hle : ρ.le (upd (upd ρ n g3) (n + 1) cap) := fun i z e => upd_le (upd_bd hbd _ (Nat.le_refl _)) _ _ (upd_le (hbd _ (Nat.le_refl _)) _ _ e)
        have hrel' : RelL (upd (upd ρ n g3) (n + 1) cap) (lset (lset cs (o + 1) (.l .u64 (Int.ofNat s'))) o (.sl true n 2 0 l'.length (.o (n + 1) 0))) ((c.setIfInBounds (o + 1) (.int .u64 ((s' : Nat) : Int))).setIfInBounds o v').toList := by
          rw [Array.toList_setIfInBounds, Array.toList_setIfInBounds]
          exact ((RelL.mono hle _ _ hrel).set (o + 1) (SV.Rel.mono hle _ _ hs1)).set o hsl
        obtain ⟨Gs, hR, hp, hlt⟩ := hH.turned hle hg q1 hf hb' hrel'
        obtain ⟨G, hrep, hp2⟩ := hG Gs hp hlt
        have hRR : Reps C.B (upd (upd ρ n g3) (n + 1) cap) ((n, .vec 290 2 (svs l') (.o (n + 1) 0)) :: h.set b (.cells t (lset (lset cs (o + 1) (.l .u64 (Int.ofNat s'))) o (.sl true n 2 0 l'.length (.o (n + 1) 0))))) (G :: Gs) := ⟨G, Gs, rfl, hrep, hR⟩
        refine ⟨true, .tuple #[], .tup [], _, _, _, rfl, by simp only [SV.Rel]; exact ⟨_, rfl, .nil⟩, ⟨G :: Gs, hRR, hp2⟩, hle, upd_bd (upd_bd hbd), hd⟩
      obtain ⟨_, ⟨rfl, h0⟩ | ⟨g3, cap, cur, rfl, hB3, hcur, hle3, hmax, hsz, htk⟩⟩ := hown
      · have hl0 : l' = [] := List.eq_nil_of_length_eq_zero h0
        subst hl0
        refine fin 0 0 ?_ fun Gs hp _ => ⟨[], ?_, hp.nil⟩
        · simp only [SV.Rel]
          exact ⟨none, 0, rfl, ⟨0, upd_at _ _ _, rfl⟩, Nat.le_refl _, fun _ => ⟨0, upd_le (upd_bd hbd _ (Nat.le_refl _)) _ _ (upd_at _ _ _), fun hh => by rcases hh with hh | hh; exact absurd hh (by omega); exact hh.elim⟩⟩
        · exact ⟨0, ⟨0, upd_at _ _ _, rfl⟩, Nat.le_refl _, by simp [maxLen], .inl ⟨rfl, rfl⟩⟩
      · refine fin g3 cap ?_ fun Gs hp hlt => ⟨[(g3, .cells cur 290 (0, 0))], ?_, hp_new hp hlt hB3 hcur⟩
        · simp only [SV.Rel]
          exact ⟨_, cap, rfl, ⟨cap, upd_at _ _ _, rfl⟩, hle3, fun _ => ⟨g3, upd_le (upd_bd hbd _ (Nat.le_refl _)) _ _ (upd_at _ _ _), fun _ => rfl⟩⟩
        · refine ⟨cap, ⟨cap, upd_at _ _ _, rfl⟩, by rw [svs_len]; omega, hmax, .inr ⟨g3, cur, upd_le (upd_bd hbd _ (Nat.le_refl _)) _ _ (upd_at _ _ _), rfl, hsz, ?_⟩⟩
          rw [svs_len, htk]
          exact rel_svs l'
    · exact hd.elim
/-- one contract or another one -/
noncomputable def pickS (c : List SV → Heap → Bool) (s1 s2 : Spec) : Spec := fun args h n K => Bool.rec (motive := fun _ => Tree) (s2 args h n K) (s1 args h n K) (c args h)
theorem pickS_ok {P : Program} {𝔅 : BigRep} {f : FuncId} {c : List SV → Heap → Bool} {s1 s2 : Spec} (h1 : SpecEnters P 𝔅 f s1) (h2 : SpecEnters P 𝔅 f s2) : SpecEnters P 𝔅 f (pickS c s1 s2) where
  enter := h1.enter
  calls := by
    intro C Q args h n K hB hk
    unfold pickS at hk
    cases hc : c args h with
    | true => rw [hc] at hk; exact h1.calls C Q args h n K hB hk
    | false => rw [hc] at hk; exact h2.calls C Q args h n K hB hk
/-- is anything left behind a cut? -/
noncomputable def leftB : List SV → Heap → Bool := fun args h => match args with
  | [a, x, y] => (match natL x with
    | some x => (match natL y with
      | some y => (match a with
        | .p b o => (match o with
          | .c o => (match h.get b with
            | some ob => (match ob with
              | .cells _ cs => (match setOf h (lget cs o) with
                | some l => (match l.take (atP x l) ++ (mids x y (l.drop (atP x l)) ++ tailR y (l.drop (atP x l))) with
                  | [] => false
                  | _ :: _ => true)
                | none => false)
              | _ => false)
            | none => false)
          | _ => false)
        | _ => false)
      | none => false)
    | none => false)
  | _ => false
/-- the contracts of sets of numbers -/
noncomputable def wtQ : List (FuncId × Spec) := [(206, spAt), (146, spHas), (190, spCount)]
theorem wtQ_ok (𝔅 : BigRep) : ∀ x ∈ wtQ, SpecOk Tryz.prog 𝔅 x.1 x.2 := by
  intro x hx
  simp only [wtQ, List.mem_cons, List.not_mem_nil, or_false] at hx
  rcases hx with rfl | rfl | rfl
  · exact .inl (spAt_ok 𝔅)
  · exact .inl (spHas_ok 𝔅)
  · exact .inl (spCount_ok 𝔅)
noncomputable def wtR : List (FuncId × Spec) := (187, pickS leftB spCut (runP Tryz.prog wtQ 187 Tryz.f187)) :: wtQ
end SX
end Go.Proofs.YtnjaaagiindclaaGreatDoor

/-
  SX: sets of numbers: the contracts, in a list.
-/
namespace Go.Proofs.YtnjaaagiindclaaGreatDoor
open Go.RowKit Go.Deep
namespace SX
theorem wtR_ok (𝔅 : BigRep) : ∀ x ∈ wtR, SpecOk Tryz.prog 𝔅 x.1 x.2 := cons_ok (.inl (pickS_ok (spCut_ok 𝔅) (runP_ok fit (wtQ_ok 𝔅) Tryz.func187 (by kernel_rfl)))) (wtQ_ok 𝔅)
end SX
end Go.Proofs.YtnjaaagiindclaaGreatDoor

/-
  SX: the first leaf, as a contract.
-/
namespace Go.Proofs.YtnjaaagiindclaaGreatDoor
open Go.RowKit Go.Deep
namespace SX
/-- an object of one block has turned -/
theorem Holds.turnedO {C : Ctx} {ρ ρ' : Ren} {h : Heap} {w w' : World} {b g : Nat} {ob ob' : SObj} {o' : Obj} (H : Holds C ρ h w) (hle : ρ.le ρ') (hb : h.get b = some ob) (hG : ∀ G, Rep C.B ρ b ob G → ∃ o0, G = [(g, o0)])
    (hf : Fr (fun x => x = g) w w') (hb' : w'.heap[g]? = some o') (hrep : Rep C.B ρ' b ob' [(g, o')]) : ∃ Gs, Reps C.B ρ' (h.set b ob') Gs ∧ Hp C.I w' (Gs ++ C.R) ∧ ∀ x ∈ (Gs ++ C.R).flatten, x.1 < w.heap.size := by
  obtain ⟨Gs, r, hp⟩ := H
  obtain ⟨pre, G, post, rfl, r1, r2⟩ := r.focus hb
  obtain ⟨o0, rfl⟩ := hG G r1
  have hp1 : Hp C.I w ([(g, o0)] :: (pre ++ (post ++ C.R))) := hp.permG (by rw [List.append_assoc, List.cons_append]; exact List.perm_middle)
  have hp2 := hp1.put hf hb'
  refine ⟨pre ++ [(g, o')] :: post, r2 ρ' ob' [(g, o')] hle hrep, hp2.permG (by rw [List.append_assoc, List.cons_append]; exact List.perm_middle.symm), fun x hx => ?_⟩
  have hlt : ∀ y ∈ ([(g, o0)] :: (pre ++ (post ++ C.R))).flatten, y.1 < w.heap.size := fun y hy => hp1.lt hy
  simp only [List.flatten_append, List.flatten_cons, List.mem_append, List.mem_singleton] at hx hlt
  rcases hx with (h1 | h1 | h1) | h1
  · exact hlt x (.inr (.inl h1))
  · subst h1; exact hlt (g, o0) (.inl rfl)
  · exact hlt x (.inr (.inr (.inl h1)))
  · exact hlt x (.inr (.inr (.inr h1)))
def nilE : List (Int × SV) → Bool
  | [] => true
  | _ :: _ => false
def noKeys : SObj → Bool
  | .mp k es => (match k, es with
    | .int i, es => isK i .u64 && nilE es
    | .str, _ => false
    | .non, _ => false)
  | _ => false
theorem noKeys_is {o : SObj} (h : noKeys o = true) : o = .mp (.int .u64) [] := by
  cases o with
  | mp k es =>
    cases k with
    | int i =>
      have h' : (isK i .u64 && nilE es) = true := h
      rw [Bool.and_eq_true] at h'
      have := isK_eq h'.1
      subst this
      have h2 := h'.2
      clear h h'
      cases es with
      | nil => rfl
      | cons a l => cases h2
    | str => cases h
    | non => cases h
  | _ => cases h
/-- is it the first leaf? -/
noncomputable def leafB : List SV → Heap → Bool := fun args h => match args with
  | [a, x] => (match natL x with
    | some k => (match a with
      | .p b o => (match o with
        | .c z => (match h.get b with
          | some ob => (match ob with
            | .cells t cs => Nat.beq z 0 && (Nat.beq t 246 && (Nat.blt 3 cs.length && (Nat.ble k 1000000000000 && ((match lget cs 2 with | .ns => true | _ => false) && (match lget cs 3 with | .m mm => (match h.get mm with | some om => noKeys om | none => false) | _ => false)))))
            | _ => false)
          | none => false)
        | _ => false)
      | _ => false)
    | none => false)
  | _ => false
def isNs : SV → Bool
  | .ns => true
  | _ => false
theorem isNs_is {x : SV} (h : isNs x = true) : x = .ns := by cases x <;> first | rfl | cases h
noncomputable def spLeaf : Spec := fun args h n K => match args with
  | [a, x] => (match natL x with
    | some k => (match a with
      | .p b o => (match o with
        | .c z => (match h.get b with
          | some ob => (match ob with
            | .cells t cs => if Nat.beq z 0 && (Nat.beq t 246 && (Nat.blt 3 cs.length && (Nat.ble k 1000000000000 && isNs (lget cs 2)))) then (match lget cs 3 with
              | .m mm => (match h.get mm with
                | some om => if noKeys om then K true (.p n (.c 0)) ((n, .cells 356 (List.replicate 512 (.l .i64 0))) :: h.set mm (.mp (.int .u64) [((k : Int), .p n (.c 0))])) (n + 1) else .fail 750
                | none => .fail 751)
              | _ => .fail 752) else .fail 753
            | _ => .fail 754)
          | none => .fail 755)
        | _ => .fail 756)
      | _ => .fail 757)
    | none => .fail 758)
  | _ => .fail 759
theorem rel_rep {ρ : Ren} (x : SV) (v : Value) (h : x.Rel ρ v) : ∀ n, RelL ρ (List.replicate n x) (List.replicate n v)
  | 0 => .nil
  | n + 1 => .cons h (rel_rep x v h n)
theorem spLeaf_ok (𝔅 : BigRep) : SpecEnters Tryz.prog 𝔅 231 spLeaf where
  enter := enter_of Tryz.func231 (bodyOf_eq (by kernel_rfl)) (by kernel_rfl)
  calls := by
    intro C Q args h n K hB hk ρ w vs hv hH hbd
    unfold spLeaf at hk
    split at hk <;> try exact hk.elim
    split at hk <;> try exact hk.elim
    split at hk <;> try exact hk.elim
    split at hk <;> try exact hk.elim
    split at hk <;> try exact hk.elim
    split at hk <;> try exact hk.elim
    split at hk <;> try exact hk.elim
    split at hk <;> try exact hk.elim
    split at hk <;> try exact hk.elim
    split at hk <;> try exact hk.elim
    rename_i x' o1 k hx a b o' z o2 ob t cs hob hc xm mm hmm o3 om hom hnk
    simp only [Bool.and_eq_true, Nat.blt_eq] at hc
    obtain ⟨hz, ht, hlen, hk2, hns⟩ := hc
    have hz := Nat.eq_of_beq_eq_true hz
    have ht := Nat.eq_of_beq_eq_true ht
    have hk2 := Nat.le_of_ble_eq_true hk2
    subst hz ht
    have hom' := noKeys_is hnk
    subst hom'
    obtain ⟨v1, _, e1, h1, v2, _, rfl, h2, rfl⟩ := hv
    rw [natL_is hx] at h2
    simp only [SV.Rel] at h1 h2
    subst h2
    obtain ⟨g, hg, rfl⟩ := h1
    have e2 : vs = #[.pointer (some ⟨g, 0, none⟩), .int .u64 (k : Int)] := by rw [← Array.toList_inj, e1]; rfl
    subst e2
    obtain ⟨G, R', ⟨g', c, hg', rfl, hrel⟩, hp, _⟩ := hH.focus hob
    have eg := hg.symm.trans hg'
    injection eg with eg
    subst eg
    obtain ⟨u2, hu2, hr2⟩ := hrel.get? (i := 2) (by omega)
    obtain ⟨u3, hu3, hr3⟩ := hrel.get? (i := 3) (by omega)
    rw [isNs_is hns] at hr2
    rw [hmm] at hr3
    simp only [SV.Rel] at hr2 hr3
    subst hr2
    obtain ⟨gm, hgm, rfl⟩ := hr3
    obtain ⟨G2, R2, ⟨g2, m2, hg2, hm2, hG2⟩, hp2, _⟩ := hH.focus hom
    have eg := hgm.symm.trans hg2
    injection eg with eg
    subst eg
    have hm2' : m2 = [] := hm2
    subst hm2'
    have hM : MapIs benc w gm [] := hp2.map hG2
    refine (Lf.leaf_new w hp.blk (by rw [← Array.getElem?_toList]; exact hu2) (by rw [← Array.getElem?_toList]; exact hu3) hM k hk2).mono ?_
    rintro e w' ⟨gl, rfl, hge, hf, hgl, hm'⟩
    obtain ⟨es', cl', hmb, hrest⟩ := hm'
    have hle : ρ.le (upd ρ n gl) := upd_le (hbd n (Nat.le_refl _))
    have hrep : Rep C.B (upd ρ n gl) mm (.mp (.int .u64) [((k : Int), .p n (.c 0))]) [(gm, .map es' cl')] := by
      refine ⟨gm, [((k : Int), .pointer (some ⟨gl, 0, none⟩))], hle _ _ hgm, ⟨_, [], rfl, ?_, rfl⟩, ⟨es', cl', rfl, hrest⟩⟩
      simp only [SV.Rel]
      exact ⟨gl, upd_at _ _ _, rfl⟩
    obtain ⟨Gs, hR, hpp, hlt⟩ := hH.turnedO hle hom (fun G hG => by
      obtain ⟨g3, m3, hg3, _, es3, cl3, rfl, _⟩ := hG
      have eg := hgm.symm.trans hg3
      injection eg with eg
      subst eg
      exact ⟨_, rfl⟩) hf hmb hrep
    have hRR : Reps C.B (upd ρ n gl) ((n, .cells 356 (List.replicate 512 (.l .i64 0))) :: h.set mm (.mp (.int .u64) [((k : Int), .p n (.c 0))])) ([(gl, .cells (Array.replicate 512 (.int .i64 0)) 356 (0, 0))] :: Gs) :=
      ⟨_, Gs, rfl, ⟨gl, _, upd_at _ _ _, rfl, by rw [Array.toList_replicate]; exact rel_rep _ _ (by simp only [SV.Rel]) 512⟩, hR⟩
    exact ⟨true, _, .p n (.c 0), _, _, upd ρ n gl, rfl, by simp only [SV.Rel]; exact ⟨gl, upd_at _ _ _, rfl⟩, ⟨_, hRR, hp_new hpp hlt hge hgl⟩, hle, upd_bd hbd, hk⟩
end SX
end Go.Proofs.YtnjaaagiindclaaGreatDoor

/-
  The contracts of closed runs: the table of classes, sets as one object.
-/
namespace Go.Proofs.YtnjaaagiindclaaGreatDoor
open Go.RowKit Go.Deep
namespace SX
theorem app_ok {P : Program} {𝔅 : BigRep} {l m : List (FuncId × Spec)} (h1 : ∀ x ∈ l, SpecOk P 𝔅 x.1 x.2) (h2 : ∀ x ∈ m, SpecOk P 𝔅 x.1 x.2) : ∀ x ∈ l ++ m, SpecOk P 𝔅 x.1 x.2 := fun x hx => (List.mem_append.1 hx).elim (h1 x) (h2 x)
noncomputable def wt2 : List (FuncId × Spec) := (231, pickS leafB spLeaf (runP Tryz.prog wtR 231 Tryz.f231)) :: (wtR ++ (wtS ++ wt1))
theorem wt2_ok {𝔅 : BigRep} (hB : ∀ l g G, 𝔅 (.d 1 l) g G ↔ FpG SetsM g l G) : ∀ x ∈ wt2, SpecOk Tryz.prog 𝔅 x.1 x.2 := cons_ok (.inl (pickS_ok (spLeaf_ok 𝔅) (runP_ok fit (wtR_ok 𝔅) Tryz.func231 (by kernel_rfl)))) <| app_ok (wtR_ok 𝔅) (app_ok (wtS_ok hB) (wt1_ok 𝔅))
end SX
end Go.Proofs.YtnjaaagiindclaaGreatDoor

/-
  What fresh makes.
-/
namespace Go.Proofs.YtnjaaagiindclaaGreatDoor
open Go.RowKit Go.Deep
namespace SX
/- F0 r: 118 objects of 118 -/
def F0v : SV := (q 107)
def F0n : Nat := 124
def F0h0 (h : Heap) : Heap :=
  (122, .vec 97 1 [(q 116), (q 120)] (.o 123 0)) ::
  (121, .vec 97 1 [(q 120)] (.c 1)) ::
  (120, .cells 156 ((q 115) :: (j 1) :: (rp_ 136 (j 0) [(u 0), (j 0)]))) ::
  (118, .gone) ::
  (117, .vec 97 1 [(q 116)] (.c 1)) ::
  (116, .cells 156 ((q 115) :: (rp_ 137 (j 0) [(u 0), (j 0)]))) ::
  (115, .cells 195 [(q 108)]) ::
  (114, mpi .i64 []) ::
  (113, mpi .i64 []) ::
  (112, mpi .i64 []) ::
  (111, mpi .i64 []) ::
  (110, .cells 193 ((q 37) :: (rp_ 256 .ns [(.m 111), (.m 112), (.m 113), (.m 114), (.m 109)]))) ::
  (109, mpi .u64 []) ::
  (108, .cells 151 ((q 37) :: (q 103) :: (q 104) :: .ns :: (rp_ 4 (u 0) []))) ::
  (107, .cells 84 [(q 37), (q 103), (q 104), (q 108), (.sl true 122 1 0 2 (.o 123 0)), (q 110), (.m 105), (q 106), (j 100), .ff, (u 0), (u 0)]) ::
  (106, .cells 187 [.ns]) ::
  (105, mpi .i64 []) ::
  (104, .cells 184 [.np, (j 0)]) ::
  (103, .big (.d 1 [])) ::
  (102, .cells 258 [(u 0), (u 0), (u 0)]) ::
  (101, .cells 258 [(u 0), (u 0), (u 0)]) ::
  (100, .cells 258 [(u 0), (u 0), (u 0)]) ::
  (99, .cells 258 [(u 0), (u 0), (u 0)]) ::
  (98, .cells 258 [(u 0), (u 0), (u 0)]) ::
  (97, .cells 258 [(u 0), (u 0), (u 0)]) ::
  (96, .cells 258 [(u 0), (u 0), (u 0)]) ::
  (95, .cells 258 [(u 0), (u 0), (u 0)]) ::
  (94, .cells 258 [(u 0), (u 0), (u 0)]) ::
  (93, .cells 258 [(u 0), (u 0), (u 0)]) ::
  (92, .cells 258 [(u 0), (u 0), (u 0)]) ::
  (91, .cells 258 [(u 0), (u 0), (u 0)]) ::
  (90, .cells 258 [(u 0), (u 0), (u 0)]) ::
  (89, .cells 258 [(u 0), (u 0), (u 0)]) ::
  (88, .cells 258 [(u 0), (u 0), (u 0)]) ::
  (87, .cells 258 [(u 0), (u 0), (u 0)]) ::
  (86, .cells 258 [(u 0), (u 0), (u 0)]) ::
  (85, .cells 258 [(u 0), (u 0), (u 0)]) ::
  (84, .cells 258 [(u 0), (u 0), (u 0)]) ::
  (83, .cells 258 [(u 0), (u 0), (u 0)]) ::
  (82, .cells 258 [(u 0), (u 0), (u 0)]) :: h
def F0h1 (h : Heap) : Heap :=
  (81, .cells 258 [(u 0), (u 0), (u 0)]) ::
  (80, .cells 258 [(u 0), (u 0), (u 0)]) ::
  (79, .cells 258 [(u 0), (u 0), (u 0)]) ::
  (78, .cells 258 [(u 0), (u 0), (u 0)]) ::
  (77, .cells 258 [(u 0), (u 0), (u 0)]) ::
  (76, .cells 258 [(u 0), (u 0), (u 0)]) ::
  (75, .cells 258 [(u 0), (u 0), (u 0)]) ::
  (74, .cells 258 [(u 0), (u 0), (u 0)]) ::
  (73, .cells 258 [(u 0), (u 0), (u 0)]) ::
  (72, .cells 258 [(u 0), (u 0), (u 0)]) ::
  (71, .cells 258 [(u 0), (u 0), (u 0)]) ::
  (70, .cells 258 [(u 0), (u 0), (u 0)]) ::
  (69, .cells 258 [(u 0), (u 0), (u 0)]) ::
  (68, .cells 258 [(u 0), (u 0), (u 0)]) ::
  (67, .cells 258 [(u 0), (u 0), (u 0)]) ::
  (66, .cells 258 [(u 0), (u 0), (u 0)]) ::
  (65, .cells 258 [(u 0), (u 0), (u 0)]) ::
  (64, .cells 258 [(u 0), (u 0), (u 0)]) ::
  (63, .cells 258 [(u 0), (u 0), (u 0)]) ::
  (62, .cells 258 [(u 0), (u 0), (u 0)]) ::
  (61, .cells 258 [(u 0), (u 0), (u 0)]) ::
  (60, .cells 258 [(u 0), (u 0), (u 0)]) ::
  (59, .cells 258 [(u 0), (u 0), (u 0)]) ::
  (58, .cells 258 [(u 0), (u 0), (u 0)]) ::
  (57, .cells 258 [(u 0), (u 0), (u 0)]) ::
  (56, .cells 258 [(u 0), (u 0), (u 0)]) ::
  (55, .cells 258 [(u 0), (u 0), (u 0)]) ::
  (54, .cells 258 [(u 0), (u 0), (u 0)]) ::
  (53, .cells 258 [(u 0), (u 0), (u 0)]) ::
  (52, .cells 258 [(u 0), (u 0), (u 0)]) ::
  (51, .cells 258 [(u 0), (u 0), (u 0)]) ::
  (50, .cells 258 [(u 0), (u 0), (u 0)]) ::
  (49, .cells 258 [(u 0), (u 0), (u 0)]) ::
  (48, .cells 258 [(u 0), (u 0), (u 0)]) ::
  (47, .cells 258 [(u 0), (u 0), (u 0)]) ::
  (46, .cells 258 [(u 0), (u 0), (u 0)]) ::
  (45, .cells 258 [(u 0), (u 0), (u 0)]) ::
  (44, .cells 258 [(u 0), (u 0), (u 0)]) ::
  (43, .cells 258 [(u 0), (u 0), (u 0)]) ::
  (42, .cells 258 [(u 0), (u 0), (u 0)]) :: h
def F0h2 (h : Heap) : Heap :=
  (41, .cells 258 [(u 0), (u 0), (u 0)]) ::
  (40, .cells 258 [(u 0), (u 0), (u 0)]) ::
  (39, .cells 258 [(u 0), (u 0), (u 0)]) ::
  (38, .cells 256 [(j 1), .ns, .np, (j 0)]) ::
  (37, .cells 141 [(q 16), (q 17), (q 35), (q 38), (.m 36), (q 39), (q 40), (q 41), (q 42), (q 43), (q 44), (q 45), (q 46), (q 47), (q 48), (q 49), (q 50), (q 51), (q 52), (q 53), (q 54), (q 55), (q 56), (q 57), (q 58), (q 59), (q 60), (q 61), (q 62), (q 63), (q 64), (q 65), (q 66), (q 67), (q 68), (q 69), (q 70), (q 71), (q 72), (q 73), (q 74), (q 75), (q 76), (q 77), (q 78), (q 79), (q 80), (q 81), (q 82), (q 83), (q 84), (q 85), (q 86), (q 87), (q 88), (q 89), (q 90), (q 91), (q 92), (q 93), (q 94), (q 95), (q 96), (q 97), (q 98), (q 99), (q 100), (q 101), (q 102), (u 0), (u 0)]) ::
  (36, mpi .i64 []) ::
  (35, .cells 246 [.ns, (u 0), .ns, (.m 34)]) ::
  (34, mpi .u64 []) ::
  (32, .vec 304 1 [(.m 18), (.m 22), (.m 26), (.m 30)] (.o 33 0)) ::
  (31, .vec 304 1 [(.m 30)] (.c 1)) ::
  (30, mpi .u64 []) ::
  (28, .gone) ::
  (27, .vec 304 1 [(.m 26)] (.c 1)) ::
  (26, mpi .u64 []) ::
  (24, .gone) ::
  (23, .vec 304 1 [(.m 22)] (.c 1)) ::
  (22, mpi .u64 []) ::
  (20, .gone) ::
  (19, .vec 304 1 [(.m 18)] (.c 1)) ::
  (18, mpi .u64 []) ::
  (17, .cells 252 [.ns, (u 0), .ns, (u 0), .ns, (u 0), .ns, (u 0), (.sl true 32 1 0 4 (.o 33 0))]) ::
  (16, .cells 181 [(.sl true 11 1 0 0 (.zr)), (.sl true 12 1 0 0 (.zr)), (.sl true 13 1 0 0 (.zr)), .ns, (u 0), .ns, (u 0), .ns, (u 0), (.m 14), (.m 15)]) ::
  (15, mpi .u64 []) ::
  (14, mpi .u64 []) ::
  (13, .vec 22 1 [] (.c 0)) ::
  (12, .vec 4 1 [] (.c 0)) ::
  (11, .vec 22 1 [] (.c 0)) ::
  (10, .cells 31 [(.sl true 6 1 0 0 (.zr)), (.sl true 7 1 0 0 (.zr)), (.sl true 8 1 0 0 (.zr))]) ::
  (9, .cells 31 [(.sl true 6 1 0 0 (.zr)), (.sl true 7 1 0 0 (.zr)), (.sl true 8 1 0 0 (.zr))]) ::
  (8, .vec 22 1 [] (.c 0)) ::
  (7, .vec 4 1 [] (.c 0)) ::
  (6, .vec 22 1 [] (.c 0)) ::
  (5, .cells 31 [(.sl true 6 1 0 0 (.zr)), (.sl true 7 1 0 0 (.zr)), (.sl true 8 1 0 0 (.zr))]) ::
  (4, .cells 31 [.ns, .ns, .ns]) ::
  (3, .cells 31 [.ns, .ns, .ns]) ::
  (2, .big .n) ::
  (1, .big .n) ::
  (0, .big .z) :: h
def F0h : Heap := F0h0 (F0h1 (F0h2 []))

def heapN : Heap := [(2, .big .n), (1, .big .n), (0, .big .z)]
set_option maxRecDepth 100000 in
theorem fresh_sure : (runP Tryz.prog wt2 12 Tryz.f12 [.agg [.ns, .ns, .ns]] heapN 3 tellK).sure (isRes F0v F0h F0n) = true := by kernel_rfl
end SX
end Go.Proofs.YtnjaaagiindclaaGreatDoor

/-
  SX: a call's tree with its end asked. No program in sight.
-/
namespace Go.Proofs.YtnjaaagiindclaaGreatDoor
open Go.RowKit Go.Deep
namespace SX

/-- the end, asked -/
def askK (Q : Bool → SV → Heap → Nat → Prop) : Bool → SV → Heap → Nat → Tree := fun b v h n => .need (Q b v h n) .stop
theorem whole_ask {P : Program} {W : World} {f : FuncId} {sp : Spec} (hs : SpecEnters P (bigW W) f sp) {args : List SV} {vs : Array Value} (hv : RelL ren0 args vs.toList) (Q : Bool → SV → Heap → Nat → Prop)
    (hd : (sp args heap0 1 (askK Q)).den fun _ _ => False) :
    Calls P f vs W fun e w' => ∃ b x h' n' ρ' v, e = Ended b v ∧ SV.Rel ρ' x v ∧ Holds ⟨W, [], bigW W⟩ ρ' h' w' ∧ ρ'.bd n' ∧ Q b x h' n' := by
  refine (hs.calls ⟨W, [], bigW W⟩ _ args heap0 1 (askK Q) rfl hd ren0 W vs hv (whole_start W) (fun b hb => if_neg (by omega))).mono ?_
  rintro e w' ⟨b, v, x, h', n', ρ', rfl, hx, hH, _, hbd, hq, _⟩
  exact ⟨b, x, h', n', ρ', v, rfl, hx, hH, hbd, hq⟩
/-- one thing after another, all wanted -/
def needs : List Prop → Tree → Tree
  | [], k => k
  | p :: l, k => .need p (needs l k)
def allT : List Prop → Prop
  | [] => True
  | p :: l => p ∧ allT l
theorem needs_den {Q : Ex → St → Prop} : ∀ {l : List Prop} {k : Tree}, allT l → k.den Q → (needs l k).den Q
  | [], _, _, h => h
  | _ :: _, _, ⟨h1, h2⟩, h => ⟨h1, fun _ => needs_den h2 h⟩
end SX
end Go.Proofs.YtnjaaagiindclaaGreatDoor

/-
  SX: one way through a tree. No program in sight.
-/
namespace Go.Proofs.YtnjaaagiindclaaGreatDoor
open Go.RowKit Go.Deep
namespace SX
/-- what lies on the way: 0: a test that fails, 1: one that holds, 2: a need -/
noncomputable def follow (bs : List Nat) : Tree → Tree := List.rec (motive := fun _ => Tree → Tree) (fun t => t)
  (fun b _ ih t => match t with
    | .split _ x y => ih (if Nat.beq b 1 then x else y)
    | .need _ k => ih k
    | .both x _ => ih x
    | _ => .fail 650) bs
noncomputable def conds (bs : List Nat) : Tree → List Prop := List.rec (motive := fun _ => Tree → List Prop) (fun _ => [])
  (fun b _ ih t => match t with
    | .split c x y => if Nat.beq b 1 then (c = true) :: ih x else (c = false) :: ih y
    | .need p k => p :: ih k
    | _ => [False]) bs
theorem follow_den {Q : Ex → St → Prop} : ∀ {bs : List Nat} {t : Tree}, allT (conds bs t) → (follow bs t).den Q → t.den Q
  | [], _, _, h => h
  | b :: bs, .split c x y, h, hd => by
    have h' : allT (if Nat.beq b 1 then (c = true) :: conds bs x else (c = false) :: conds bs y) := h
    have hd' : (follow bs (if Nat.beq b 1 then x else y)).den Q := hd
    by_cases hb : Nat.beq b 1 = true
    · rw [if_pos hb] at h' hd'
      exact ⟨fun _ => follow_den h'.2 hd', fun e => by rw [h'.1] at e; cases e⟩
    · rw [if_neg hb] at h' hd'
      exact ⟨fun e => (by rw [h'.1] at e; cases e), fun _ => follow_den h'.2 hd'⟩
  | b :: bs, .need p k, h, hd => ⟨h.1, fun _ => follow_den (bs := bs) (t := k) h.2 hd⟩
  | _ :: _, .done _ _, h, _ => absurd h.1 id
  | _ :: _, .both _ _, h, _ => absurd h.1 id
  | _ :: _, .all _ _, h, _ => absurd h.1 id
  | _ :: _, .stop, h, _ => absurd h.1 id
  | _ :: _, .fail _, h, _ => absurd h.1 id
theorem allT_app : ∀ {l m : List Prop}, allT l → allT m → allT (l ++ m)
  | [], _, _, h => h
  | _ :: _, _, ⟨h1, h2⟩, h => ⟨h1, allT_app h2 h⟩
theorem allT_l : ∀ {l m : List Prop}, allT (l ++ m) → allT l
  | [], _, _ => trivial
  | _ :: _, _, ⟨h1, h2⟩ => ⟨h1, allT_l h2⟩
theorem allT_r : ∀ {l m : List Prop}, allT (l ++ m) → allT m
  | [], _, h => h
  | _ :: _, _, ⟨_, h2⟩ => allT_r h2
/-- all that is asked on one way to the end; of two orders, on both -/
noncomputable def ways (bs : List Nat) : Tree → List Prop := List.rec (motive := fun _ => Tree → List Prop) (fun t => match t with
    | .stop => []
    | _ => [False])
  (fun b _ ih t => match t with
    | .split c x y => if Nat.beq b 1 then (c = true) :: ih x else (c = false) :: ih y
    | .need p k => p :: ih k
    | .both x y => ih x ++ ih y
    | _ => [False]) bs
theorem ways_den {Q : Ex → St → Prop} : ∀ {bs : List Nat} {t : Tree}, allT (ways bs t) → t.den Q
  | [], .stop, _ => trivial
  | [], .split _ _ _, h => absurd h.1 id
  | [], .need _ _, h => absurd h.1 id
  | [], .done _ _, h => absurd h.1 id
  | [], .both _ _, h => absurd h.1 id
  | [], .all _ _, h => absurd h.1 id
  | [], .fail _, h => absurd h.1 id
  | b :: bs, .split c x y, h => by
    have h' : allT (if Nat.beq b 1 then (c = true) :: ways bs x else (c = false) :: ways bs y) := h
    by_cases hb : Nat.beq b 1 = true
    · rw [if_pos hb] at h'
      exact ⟨fun _ => ways_den h'.2, fun e => by rw [h'.1] at e; cases e⟩
    · rw [if_neg hb] at h'
      exact ⟨fun e => (by rw [h'.1] at e; cases e), fun _ => ways_den h'.2⟩
  | _ :: bs, .need _ k, h => ⟨h.1, fun _ => ways_den (bs := bs) (t := k) h.2⟩
  | _ :: bs, .both x y, h => by
    have h' : allT (ways bs x ++ ways bs y) := h
    exact ⟨ways_den (allT_l h'), ways_den (allT_r h')⟩
  | _ :: _, .done _ _, h => absurd h.1 id
  | _ :: _, .all _ _, h => absurd h.1 id
  | _ :: _, .stop, h => absurd h.1 id
  | _ :: _, .fail _, h => absurd h.1 id
end SX
end Go.Proofs.YtnjaaagiindclaaGreatDoor

/-
  Wants, where the size lies in a class. No condition.
-/
namespace Go.Proofs.YtnjaaagiindclaaGreatDoor
open Go.RowKit Go.Deep
namespace SX
/-- all that was there; and numbers of a range, each the meaning of an object of its own -/
def numB (W : World) (lo hi : Nat) : BigRep := fun m g G => match m with
  | .z => G = allG W
  | .n => G = [] ∧ lo < g ∧ g ≤ hi
  | .d k l => k = 1 ∧ FpG SetsM g l G
theorem numB_s (W : World) (lo hi : Nat) (l : List (List Int)) (g : Nat) (G : Grp) : numB W lo hi (.d 1 l) g G ↔ FpG SetsM g l G := ⟨fun h => h.2, fun h => ⟨rfl, h⟩⟩
/-- a call that asks nothing of memory, and whose value tells nothing of it -/
theorem dry_call {P : Program} {𝔅 : BigRep} {f : FuncId} {sp : Spec} (hs : SpecEnters P 𝔅 f sp) {args : List SV} {vs : Array Value} (hv : RelL (fun _ => none) args vs.toList) {x : SV} (hx : x.dry = true)
    (hd : (sp args [] 0 (askK fun b v _ _ => b = true ∧ v = x)).den fun _ _ => False) {C : Ctx} (hB : C.B = 𝔅) {ρ : Ren} {h : Heap} {w : World} (H : Holds C ρ h w) :
    Calls P f vs w fun e w' => ∃ v, e = .returned v ∧ SV.Rel ρ x v ∧ Holds C ρ h w' := by
  obtain ⟨Gs, hr, hp⟩ := H
  refine (hs.calls ⟨C.I, Gs ++ C.R, C.B⟩ _ args [] 0 _ hB hd (fun _ => none) w vs hv ⟨[], rfl, hp⟩ (fun _ _ => rfl)).mono ?_
  rintro e w' ⟨b, v, y, h', n', ρ', rfl, hy, ⟨Ks, hrK, hp'⟩, _, _, ⟨rfl, rfl⟩, _⟩
  refine ⟨v, rfl, SV.dry_rel _ _ hx hy, Gs, hr, ?_⟩
  have hp2 : Hp C.I w' (Ks ++ (Gs ++ C.R)) := hp'
  clear hp' hrK
  induction Ks with
  | nil => exact hp2
  | cons K Ks ih => exact ih (by rw [List.cons_append] at hp2; exact hp2.drop)
/-- the call, with its size -/
def callL (x : SV) : List SV := [.l .i64 1, .l .i64 0, x, .l .u64 0, .l .i64 0, .l .u64 0, .ff, .l .i64 0, .ns, .ns]
def wantV (k pages : Nat) : SV := .tup [.agg [.l .i64 k, .tt, .ff, .l .u64 pages], .l .i64 0]
noncomputable def wantS : Spec := runP Tryz.prog wt1 103 Tryz.f103
theorem wantS_ok (𝔅 : BigRep) : SpecEnters Tryz.prog 𝔅 103 wantS := runP_ok fit (wt1_ok _) Tryz.func103 (by kernel_rfl)
/-- what is asked ahead -/
def askA (z : Int) : List Prop := [True, (z == 0) = false, True, decide (z > 1099511627776) = false, True, decide ((0 : Int) > z) = false, True, decide (z < 16) = false, True, decide (z ≤ 32768) = true, -9223372036854775808 ≤ z ∧ z ≤ 9223372036854775807,
    True, decide (z < 0) = false, True, decide (z > 32768) = false]
/-- the search's tests -/
def askS (z : Int) : List (Int × Bool) → List Prop
  | [] => []
  | p :: l => True :: ((!decide (p.1 ≥ z)) = p.2) :: askS z l
def pathS : List (Int × Bool) → List Nat
  | [] => []
  | p :: l => 2 :: (if p.2 then 1 else 0) :: pathS l
def path0 : List Nat := [2, 0, 2, 0, 2, 0, 2, 0, 2, 1, 2, 2, 0, 2, 0]
theorem ways_eq {bs : List Nat} {T : Tree} {L : List Prop} {Q : Ex → St → Prop} (h : ways bs T = L) (hL : allT L) : T.den Q := ways_den (bs := bs) (by rw [h]; exact hL)
theorem askS_ok {z : Int} {lo hi : Nat} (h1 : (lo : Int) < z) (h2 : z ≤ hi) : ∀ {c : List (Int × Bool)}, c.all (fun p => if p.2 then decide (p.1 ≤ lo) else decide ((hi : Int) ≤ p.1)) = true → allT (askS z c)
  | [], _ => trivial
  | p :: c, h => by
    rw [List.all_cons, Bool.and_eq_true] at h
    refine ⟨trivial, ?_, askS_ok h1 h2 h.2⟩
    have h3 := h.1
    obtain ⟨s, b⟩ := p
    cases b with
    | true =>
      have h4 : s ≤ lo := by simpa using h3
      simp; omega
    | false =>
      have h4 : (hi : Int) ≤ s := by simpa using h3
      simp; omega
theorem askA_ok {z : Int} {lo hi : Nat} (h1 : (lo : Int) < z) (h2 : z ≤ hi) (h3 : 16 ≤ lo) (h4 : hi ≤ 32768) : allT (askA z) := by
  refine ⟨trivial, ?_, trivial, ?_, trivial, ?_, trivial, ?_, trivial, ?_, ⟨by omega, by omega⟩, trivial, ?_, trivial, ?_, trivial⟩
  · rw [beq_eq_false_iff_ne]; omega
  all_goals simp
  all_goals omega
def bigO : SObj → Bool
  | .big m => (match m with | .n => true | _ => false)
  | _ => false
theorem bigO_is {o : SObj} (h : bigO o = true) : o = .big .n := by
  cases o with
  | big m => cases m <;> first | rfl | cases h
  | _ => cases h
/-- Wants, of a size that an object tells -/
noncomputable def spWant (k pages : Nat) : Spec := fun args h n K => match args with
  | [x] => (match x with
    | .agg l => (match lget l 2 with
      | .nu i => if beqL l (callL (.nu i)) then (match h.get i with
        | some o => if bigO o then K true (wantV k pages) h n else .fail 941
        | none => .fail 942) else .fail 943
      | _ => .fail 944)
    | _ => .fail 945)
  | _ => .fail 946
def WantIs (sp : Spec) (k pages : Nat) (c : List (Int × Bool)) : Prop := ∀ z : Int, ways (path0 ++ pathS c ++ [2]) (sp [.agg (callL (.i .u64 z))] [] 0 (askK fun b v _ _ => b = true ∧ v = wantV k pages)) = askA z ++ askS z c ++ [true = true ∧ wantV k pages = wantV k pages]
theorem want_call {P : Program} {𝔅 : BigRep} {f : FuncId} {sp : Spec} (hs : SpecEnters P 𝔅 f sp) {k lo hi pages : Nat} {c : List (Int × Bool)} (ht : WantIs sp k pages c) (hc : c.all (fun p => if p.2 then decide (p.1 ≤ lo) else decide ((hi : Int) ≤ p.1)) = true) (h16 : 16 ≤ lo) (hhi : hi ≤ 32768)
    {g : Nat} (h1 : lo < g) (h2 : g ≤ hi) {vs : Array Value} (hv : RelL (fun _ => none) [.agg (callL (.i .u64 (g : Int)))] vs.toList) {C : Ctx} (hB : C.B = 𝔅) {ρ : Ren} {h : Heap} {w : World} (H : Holds C ρ h w) :
    Calls P f vs w fun e w' => ∃ v, e = .returned v ∧ SV.Rel ρ (wantV k pages) v ∧ Holds C ρ h w' :=
  dry_call hs hv rfl (ways_eq (ht (g : Int)) (allT_app (allT_app (askA_ok (by omega) (by omega) h16 hhi) (askS_ok (by omega) (by omega) hc)) ⟨⟨rfl, rfl⟩, trivial⟩)) hB H
set_option maxRecDepth 10000 in
theorem spWant_ok {W : World} {k lo hi pages : Nat} {c : List (Int × Bool)} (ht : WantIs wantS k pages c) (hc : c.all (fun p => if p.2 then decide (p.1 ≤ lo) else decide ((hi : Int) ≤ p.1)) = true) (h16 : 16 ≤ lo) (hhi : hi ≤ 32768) :
    SpecEnters Tryz.prog (numB W lo hi) 103 (spWant k pages) where
  enter := enter_of Tryz.func103 (bodyOf_eq (by kernel_rfl)) (by kernel_rfl)
  calls := by
    intro C Q args h n K hB hk ρ w vs hv hH hbd
    unfold spWant at hk
    split at hk <;> try exact hk.elim
    split at hk <;> try exact hk.elim
    split at hk <;> try exact hk.elim
    split at hk <;> try exact hk.elim
    split at hk <;> try exact hk.elim
    split at hk <;> try exact hk.elim
    rename_i x0 l s i hl hb oo o ho hbig
    have hl' := beqL_eq _ _ hb
    have ho' := bigO_is hbig
    subst ho'
    obtain ⟨G, R', ⟨g, hg, hG⟩, _, _⟩ := hH.focus ho
    rw [hB] at hG
    obtain ⟨rfl, h1, h2⟩ := hG
    obtain ⟨v1, us, e1, hx, hus⟩ := hv
    have hus' : us = [] := hus
    subst hus'
    simp only [SV.Rel] at hx
    obtain ⟨cs, rfl, hcs⟩ := hx
    rw [hl'] at hcs
    have hcs2 : RelL (fun _ => none) (callL (.i .u64 (g : Int))) cs.toList := by
      simp only [callL, RelL, SV.Rel] at hcs ⊢
      obtain ⟨a0, r0, e0, rfl, a1, r1, rfl, rfl, a2, r2, rfl, ⟨g2, hg2, rfl⟩, r⟩ := hcs
      have e3 : g2 = g := by rw [hg] at hg2; exact (Option.some.inj hg2).symm
      subst e3
      exact ⟨_, _, e0, rfl, _, _, rfl, rfl, _, _, rfl, rfl, r⟩
    refine (want_call (wantS_ok _) ht hc h16 hhi h1 h2 (vs := vs) ?_ hB hH).mono ?_
    · rw [e1]
      exact .cons (by simp only [SV.Rel]; exact ⟨cs, rfl, hcs2⟩) .nil
    · rintro e w' ⟨v, rfl, hv, hH'⟩
      exact ⟨true, v, wantV k pages, h, n, ρ, rfl, hv, hH', .refl _, hbd, hk⟩
end SX
end Go.Proofs.YtnjaaagiindclaaGreatDoor

/-
  math/bits.TrailingZeros64. Its table lies.
-/
namespace Go.Proofs.YtnjaaagiindclaaGreatDoor
open Go.RowKit Go.Deep Go.Shelf

def tzRen : Go.Shelf.Ren := ⟨fun | 29 => 168 | n => n, fun | 0 => 0 | 3 => 3 | 4 => 4 | 5 => 5 | 22 => 22 | 25 => 249 | 54 => 322 | n => n, fun | 1 => 0 | n => n⟩
theorem tzLays : Go.Proofs.Lays7.n29 Tryz.prog tzRen := {
  mixed := by kernel_rfl
  f29 := Tryz.func168.trans (congrArg some (by kernel_rfl))
  t0 := Tryz.underlying0, a0 := Tryz.isAgg0, z0 := Tryz.sizeOf0, v0 := Tryz.zeroValue0, i0 := by kernel_rfl
  t3 := Tryz.underlying3, a3 := Tryz.isAgg3, z3 := Tryz.sizeOf3, v3 := Tryz.zeroValue3, i3 := by kernel_rfl
  t4 := Tryz.underlying4, a4 := Tryz.isAgg4, z4 := Tryz.sizeOf4, v4 := Tryz.zeroValue4, i4 := by kernel_rfl
  t5 := Tryz.underlying5, a5 := Tryz.isAgg5, z5 := Tryz.sizeOf5, v5 := Tryz.zeroValue5, i5 := by kernel_rfl
  t22 := Tryz.underlying22, a22 := Tryz.isAgg22, z22 := Tryz.sizeOf22, v22 := Tryz.zeroValue22, i22 := by kernel_rfl
  t25 := Tryz.underlying249, a25 := Tryz.isAgg249, z25 := Tryz.sizeOf249, v25 := Tryz.zeroValue249, i25 := by kernel_rfl
  t54 := Tryz.underlying322, a54 := Tryz.isAgg322, z54 := Tryz.sizeOf322
  g1 := by kernel_rfl }
/-- the table that is read -/
structure Laid (w : World) : Prop where
  tz : TabAt 0 Lib.deBruijn64tab w
theorem Laid.fr {w w' : World} (h : Laid w) (hf : Fr (fun _ => False) w w') : Laid w' := ⟨fun j hj => by
  have hc := h.tz j hj
  have hlt := World.block_lt_of_cell? _ _ hc
  rw [World.cell?_of_block (hf.same _ hlt (fun x => x))]
  exact hc⟩
namespace SX
theorem Holds.stillB {W : World} {C : Ctx} (hB : ∀ g G, C.B .z g G → G = allG W) {ρ : Ren} {h : Heap} {w : World} (H : Holds C ρ h w) (e : big0 h = true) {i : Nat} {o : Obj} (hi : W.heap[i]? = some o) : w.heap[i]? = some o := by
  obtain ⟨G, R', ⟨g, _, hG⟩, hp, _⟩ := H.focus (big0_get e)
  rw [hB _ _ hG] at hp
  exact hp.has (i, o) (by simp only [List.flatten_cons, List.mem_append]; exact .inl (allG_mem hi))
theorem Holds.frB {W : World} {C : Ctx} (hI : C.I = W) (hB : ∀ g G, C.B .z g G → G = allG W) {ρ : Ren} {h : Heap} {w : World} (H : Holds C ρ h w) (e : big0 h = true) : Fr (fun _ => False) W w := by
  have key := fun {i : Nat} {o : Obj} (hi : W.heap[i]? = some o) => H.stillB hB e hi
  obtain ⟨Gs, _, hp⟩ := H
  rw [hI] at hp
  refine ⟨hp.io.1, hp.io.2.1, hp.io.2.2, ?_, fun b hb _ => ?_⟩
  · rcases Nat.lt_or_ge w.heap.size W.heap.size with h1 | h1
    · have h2 : W.heap[w.heap.size]? = some (W.heap[w.heap.size]'h1) := Array.getElem?_eq_getElem _
      have h3 := key h2
      rw [Array.getElem?_eq_none (Nat.le_refl _)] at h3
      cases h3
    · exact h1
  · have h2 : W.heap[b]? = some (W.heap[b]'hb) := Array.getElem?_eq_getElem _
    rw [key h2, h2]
theorem Holds.laid {W : World} {C : Ctx} (hB : ∀ g G, C.B .z g G → G = allG W) (hL : Laid W) {ρ : Ren} {h : Heap} {w : World} (H : Holds C ρ h w) (e : big0 h = true) : Laid w := ⟨fun j hj => by
  have hc := hL.tz j hj
  have hlt := World.block_lt_of_cell? _ _ hc
  have h2 : W.heap[0]? = some (W.heap[0]'hlt) := Array.getElem?_eq_getElem _
  rw [World.cell?_of_block (w := W) (w' := w) (a := ⟨0, j, none⟩) (by rw [H.stillB hB e h2, h2])]
  exact hc⟩
/-- TrailingZeros64 of a number that is known -/
noncomputable def spTz : Spec := fun args h n K => match args with
  | [x] => (match x with
    | .l k z => (match z with
      | .ofNat u => if isK k .u64 && (Nat.blt u 18446744073709551616 && big0 h) then K true (.l .i64 (Lib.ctz 64 u)) h n else .fail 951
      | _ => .fail 952)
    | _ => .fail 953)
  | _ => .fail 954
theorem spTz_ok {W : World} {𝔅 : BigRep} (hB : ∀ g G, 𝔅 .z g G → G = allG W) (hL : Laid W) : SpecEnters Tryz.prog 𝔅 168 spTz where
  enter := enter_of Tryz.func168 (bodyOf_eq (by kernel_rfl)) (by kernel_rfl)
  calls := by
    intro C Q args h n K hBC hk ρ w vs hv hH hbd
    unfold spTz at hk
    split at hk <;> try exact hk.elim
    split at hk <;> try exact hk.elim
    split at hk <;> try exact hk.elim
    split at hk <;> try exact hk.elim
    rename_i x0 k z0 u hc
    simp only [Bool.and_eq_true] at hc
    obtain ⟨h1, h2, h3⟩ := hc
    have hk64 := isK_eq h1
    subst hk64
    have hu : u < 18446744073709551616 := by simpa [Nat.blt_eq] using h2
    obtain ⟨v1, us, e1, hx, hus⟩ := hv
    have hus' : us = [] := hus
    subst hus'
    simp only [SV.Rel] at hx
    subst hx
    have e2 : vs = #[.int .u64 (u : Int)] := by rw [← Array.toList_inj, e1]; rfl
    subst e2
    have hLw := hH.laid (by rw [hBC]; exact hB) hL h3
    refine (Any7.bits_TrailingZeros64 tzLays u hu w (fun _ => hLw.tz)).mono ?_
    rintro e w' ⟨rfl, rfl⟩
    exact ⟨true, _, .l .i64 (Lib.ctz 64 u), h, n, ρ, rfl, by simp only [SV.Rel], hH, .refl _, hbd, hk⟩
end SX
end Go.Proofs.YtnjaaagiindclaaGreatDoor

/-
  Two blocks of one class: what is to be computed. The program's machine, as fresh makes it.
-/
namespace Go.Proofs.YtnjaaagiindclaaGreatDoor
open Go.RowKit Go.Deep
namespace SX
/-- a reply: where, how long, and no error -/
noncomputable def repN (hi : Nat) (x : SV) (k : Nat → Tree) : Tree := match x with
  | .agg l => (match l with
    | a :: r => (match a with
      | .l ka z => (match z with
        | .ofNat u => if isK ka .u64 && beqL r [.l .u64 (hi : Int), .l .i64 0] then k u else .fail 961
        | _ => .fail 962)
      | _ => .fail 963)
    | [] => .fail 964)
  | _ => .fail 965
theorem repN_den {hi : Nat} {x : SV} {k : Nat → Tree} {Q : Ex → St → Prop} (h : (repN hi x k).den Q) : ∃ u : Nat, x = .agg [.l .u64 (u : Int), .l .u64 (hi : Int), .l .i64 0] ∧ (k u).den Q := by
  unfold repN at h
  split at h <;> try exact h.elim
  split at h <;> try exact h.elim
  split at h <;> try exact h.elim
  split at h <;> try exact h.elim
  split at h <;> try exact h.elim
  rename_i u hc
  rw [Bool.and_eq_true] at hc
  refine ⟨u, ?_, h⟩
  rw [isK_eq hc.1, beqL_eq _ _ hc.2]
  rfl
noncomputable def numN (x : SV) (k : Nat → Tree) : Tree := match x with
  | .l ka z => (match z with
    | .ofNat u => if isK ka .i64 then k u else .fail 971
    | _ => .fail 972)
  | _ => .fail 973
theorem numN_den {x : SV} {k : Nat → Tree} {Q : Ex → St → Prop} (h : (numN x k).den Q) : ∃ u : Nat, x = .l .i64 (u : Int) ∧ (k u).den Q := by
  unfold numN at h
  split at h <;> try exact h.elim
  split at h <;> try exact h.elim
  split at h <;> try exact h.elim
  rename_i u hc
  refine ⟨u, ?_, h⟩
  rw [isK_eq hc]
  rfl
/-- that a call ends well -/
noncomputable def okN (b : Bool) (k : Tree) : Tree := if b then k else .fail 981
theorem okN_den {b : Bool} {k : Tree} {Q : Ex → St → Prop} (h : (okN b k).den Q) : b = true ∧ k.den Q := by
  unfold okN at h
  split at h
  next hb => exact ⟨hb, h⟩
  · exact h.elim
noncomputable def callN (i : Nat) : List SV := [F0v, .agg (callL (.nu i))]
noncomputable def wtD (k pages : Nat) : List (FuncId × Spec) := (103, spWant k pages) :: (168, spTz) :: wt2
noncomputable def doS (k pages : Nat) : Spec := runP Tryz.prog (wtD k pages) 13 Tryz.f13
noncomputable def wtO : List (FuncId × Spec) := (168, spTz) :: wt2
noncomputable def ofS : Spec := runP Tryz.prog wtO 14 Tryz.f14
/-- two blocks of one class; where their spans are -/
noncomputable def pairT (sp of : Spec) (hi slots : Nat) : Tree :=
  sp (callN 1) F0h F0n fun b x h1 n1 => okN b (repN hi x fun u => sp (callN 2) h1 n1 fun b y h2 n2 => okN b (repN hi y fun v =>
    if Nat.beq slots 1 then okN (big0 h2) .stop else
      of [F0v, .l .u64 (u : Int)] h2 n2 fun b i h3 n3 => okN b (numN i fun i => of [F0v, .l .u64 (v : Int)] h3 n3 fun b j h4 _ => okN b (numN j fun j => okN (Nat.beq i j && (Nat.beq v (u + hi) && (Nat.blt v 18446744073709551616 && big0 h4))) .stop))))
end SX
end Go.Proofs.YtnjaaagiindclaaGreatDoor

/-
  SX: one closed call among others. No program in sight.
-/
namespace Go.Proofs.YtnjaaagiindclaaGreatDoor
open Go.RowKit Go.Deep
namespace SX
/-- a call of which all is known, in a world of which some is -/
theorem sure_step {P : Program} {𝔅 : BigRep} {f : FuncId} {sp : Spec} (hs : SpecEnters P 𝔅 f sp) {a0 : List SV} {h0 : Heap} {n0 : Nat} {x : SV} {h1 : Heap} {n1 : Nat} (ht : (sp a0 h0 n0 tellK).sure (isRes x h1 n1) = true)
    {C : Ctx} (hB : C.B = 𝔅) {ρ : Ren} {w : World} {vs : Array Value} (hv : RelL ρ a0 vs.toList) (hH : Holds C ρ h0 w) (hbd : ρ.bd n0) :
    Calls P f vs w fun e w' => ∃ v ρ', e = .returned v ∧ SV.Rel ρ' x v ∧ Holds C ρ' h1 w' ∧ ρ.le ρ' ∧ ρ'.bd n1 := by
  refine (hs.calls C (fun e st => e = .r ∧ sget st.tm 0 = x ∧ subH st.hp h1 = true ∧ st.nx = n1) a0 h0 n0 tellK hB (Tree.sure_den (fun e st hok => ?_) ht) ρ w vs hv hH hbd).mono ?_
  · simp only [isRes, Bool.and_eq_true] at hok
    obtain ⟨⟨⟨h1, h2⟩, h3⟩, h4⟩ := hok
    refine ⟨?_, SV.beq_eq _ _ h2, h3, Nat.eq_of_beq_eq_true h4⟩
    cases e <;> first | rfl | cases h1
  · rintro e w' ⟨b, v, y, h', n', ρ', rfl, hy, hH', hle, hbd', he, hx, hsub, hn⟩
    have hb : b = true := by
      cases b with
      | true => rfl
      | false => cases he
    subst hb
    have hx' : y = x := hx
    subst hx'
    have hn' : n' = n1 := hn
    subst hn'
    exact ⟨v, ρ', rfl, hy, hH'.sub hsub, hle, hbd'⟩
/-- what a call has made is not told -/
noncomputable def below (n : Nat) (h : Heap) : Heap := List.rec (motive := fun _ => Heap) [] (fun x _ ih => if Nat.blt x.1 n then x :: ih else ih) h
theorem Reps.below {𝔅 : BigRep} {ρ : Ren} {n : Nat} : ∀ {h : Heap} {Gs : List Grp}, Reps 𝔅 ρ h Gs → ∃ Ks Ds, Reps 𝔅 ρ (SX.below n h) Ks ∧ Gs.Perm (Ks ++ Ds)
  | [], Gs, r => ⟨[], Gs, rfl, .refl _⟩
  | x :: h, Gs, ⟨G, r, e, h1, h2⟩ => by
    subst e
    obtain ⟨Ks, Ds, k1, k2⟩ := Reps.below (n := n) h2
    show ∃ Ks Ds, Reps 𝔅 ρ (if Nat.blt x.1 n then x :: SX.below n h else SX.below n h) Ks ∧ _
    split
    · exact ⟨G :: Ks, Ds, ⟨G, Ks, rfl, h1, k1⟩, by rw [List.cons_append]; exact k2.cons G⟩
    · exact ⟨Ks, G :: Ds, k1, (k2.cons G).trans List.perm_middle.symm⟩
theorem Holds.below {C : Ctx} {ρ : Ren} {h : Heap} {w : World} (n : Nat) (H : Holds C ρ h w) : Holds C ρ (SX.below n h) w := by
  obtain ⟨Gs, r, hp⟩ := H
  obtain ⟨Ks, Ds, k1, k2⟩ := Reps.below (n := n) r
  refine ⟨Ks, k1, ?_⟩
  have h2 : Hp C.I w (Ds ++ (Ks ++ C.R)) := hp.permG ((k2.append_right C.R).trans (by rw [← List.append_assoc]; exact (List.perm_append_comm).append_right C.R))
  clear hp k2
  induction Ds with
  | nil => exact h2
  | cons D Ds ih => exact ih (by rw [List.cons_append] at h2; exact h2.drop)
noncomputable def trim (sp : Spec) : Spec := fun args h n K => sp args h n fun b v h' n' => K b v (below n h') n'
theorem trim_ok {P : Program} {𝔅 : BigRep} {f : FuncId} {sp : Spec} (hs : SpecEnters P 𝔅 f sp) : SpecEnters P 𝔅 f (trim sp) where
  enter := hs.enter
  calls := by
    intro C Q args h n K hB hk ρ w vs hv hH hbd
    refine (hs.calls C Q args h n _ hB hk ρ w vs hv hH hbd).mono ?_
    rintro e w' ⟨b, v, x, h', n', ρ', he, hx, hH', hle, hbd', hk'⟩
    exact ⟨b, v, x, SX.below n h', n', ρ', he, hx, hH'.below n, hle, hbd', hk'⟩
end SX
end Go.Proofs.YtnjaaagiindclaaGreatDoor

/-
  Two blocks of one class: the calls, one behind the other. No condition but that the table of TrailingZeros64 lies.
-/
namespace Go.Proofs.YtnjaaagiindclaaGreatDoor
open Go.RowKit Go.Deep
namespace SX
/-- the machine, and the two sizes -/
structure Ids (ρ : Ren) (g N1 N2 : Nat) : Prop where
  m : ∃ b, F0v = .p b (.c 0) ∧ ρ b = some g
  a : ρ 1 = some N1
  b : ρ 2 = some N2
theorem Ids.mono {ρ ρ' : Ren} {g N1 N2 : Nat} (h : Ids ρ g N1 N2) (hl : ρ.le ρ') : Ids ρ' g N1 N2 := by
  obtain ⟨⟨b, e, hb⟩, h1, h2⟩ := h
  exact ⟨⟨b, e, hl _ _ hb⟩, hl _ _ h1, hl _ _ h2⟩
/-- memory, and what is still to come -/
def Sd (C : Ctx) (g N1 N2 : Nat) (T : Heap → Nat → Tree) (w : World) : Prop := ∃ ρ h n, Holds C ρ h w ∧ ρ.bd n ∧ Ids ρ g N1 N2 ∧ (T h n).den fun _ _ => False
theorem Sd.fr {C : Ctx} {g N1 N2 : Nat} {T : Heap → Nat → Tree} {w w' : World} (h : Sd C g N1 N2 T w) (hf : Fr (fun _ => False) w w') : Sd C g N1 N2 T w' := by
  obtain ⟨ρ, h, n, hH, r⟩ := h
  exact ⟨ρ, h, n, hH.quiet hf, r⟩
def callV (N : Nat) : Value := .agg #[.int .i64 1, .int .i64 0, .int .u64 (N : Int), .int .u64 0, .int .i64 0, .int .u64 0, .bool false, .int .i64 0, .slice none 0 0, .slice none 0 0]
theorem callN_rel {ρ : Ren} {g N1 N2 i N : Nat} (h : Ids ρ g N1 N2) (hi : ρ i = some N) : RelL ρ (callN i) (#[.pointer (some ⟨g, 0, none⟩), callV N] : Array Value).toList := by
  obtain ⟨b, e, hb⟩ := h.m
  unfold callN
  rw [e]
  refine .cons (by simp only [SV.Rel]; exact ⟨g, hb, rfl⟩) (.cons ?_ .nil)
  simp only [callL, callV, SV.Rel, RelL]
  exact ⟨_, rfl, _, _, rfl, rfl, _, _, rfl, rfl, _, _, rfl, ⟨N, hi, rfl⟩, _, _, rfl, rfl, _, _, rfl, rfl, _, _, rfl, rfl, _, _, rfl, rfl, _, _, rfl, rfl, _, _, rfl, rfl, _, _, rfl, rfl, rfl⟩
variable {P : Program} {C : Ctx} {f : FuncId} {sp : Spec} {g N1 N2 hi : Nat} {w : World}
/-- a block -/
theorem do_h (hs : SpecEnters P C.B f sp) (i : Nat) {N : Nat} (hN : ∀ ρ, Ids ρ g N1 N2 → ρ i = some N) {T : Nat → Heap → Nat → Tree}
    (h : Sd C g N1 N2 (fun h n => sp (callN i) h n fun b x h1 n1 => okN b (repN hi x fun u => T u h1 n1)) w) :
    Calls P f #[.pointer (some ⟨g, 0, none⟩), callV N] w fun e w' => ∃ u : Nat, e = .returned (.agg #[.int .u64 (u : Int), .int .u64 (hi : Int), .int .i64 0]) ∧ Sd C g N1 N2 (T u) w' := by
  obtain ⟨ρ, h, n, hH, hbd, hI, hd⟩ := h
  refine (hs.calls C _ _ h n _ rfl hd ρ w _ (callN_rel hI (hN ρ hI)) hH hbd).mono ?_
  rintro e w' ⟨b, v, x, h1, n1, ρ', rfl, hx, hH', hle, hbd', hk⟩
  obtain ⟨rfl, hk1⟩ := okN_den hk
  obtain ⟨u, rfl, hk2⟩ := repN_den hk1
  simp only [SV.Rel, RelL] at hx
  obtain ⟨cs, rfl, v1, r1, e1, rfl, v2, r2, rfl, rfl, v3, r3, rfl, rfl, rfl⟩ := hx
  refine ⟨u, ?_, ρ', h1, n1, hH', hbd', hI.mono hle, hk2⟩
  show Ending.returned _ = _
  rw [show cs = #[.int .u64 (u : Int), .int .u64 (hi : Int), .int .i64 0] from by rw [← Array.toList_inj, e1]]
/-- in which span -/
theorem of_h (hs : SpecEnters P C.B f sp) (u : Nat) {T : Nat → Heap → Nat → Tree}
    (h : Sd C g N1 N2 (fun h n => sp [F0v, .l .u64 (u : Int)] h n fun b x h1 n1 => okN b (numN x fun i => T i h1 n1)) w) :
    Calls P f #[.pointer (some ⟨g, 0, none⟩), .int .u64 (u : Int)] w fun e w' => ∃ i : Nat, e = .returned (.int .i64 (i : Int)) ∧ Sd C g N1 N2 (T i) w' := by
  obtain ⟨ρ, h, n, hH, hbd, hI, hd⟩ := h
  obtain ⟨b0, e0, hb0⟩ := hI.m
  refine (hs.calls C _ _ h n _ rfl hd ρ w #[.pointer (some ⟨g, 0, none⟩), .int .u64 (u : Int)] ?_ hH hbd).mono ?_
  · rw [e0]
    exact .cons (by simp only [SV.Rel]; exact ⟨g, hb0, rfl⟩) (.cons (by simp only [SV.Rel]) .nil)
  rintro e w' ⟨b, v, x, h1, n1, ρ', rfl, hx, hH', hle, hbd', hk⟩
  obtain ⟨rfl, hk1⟩ := okN_den hk
  obtain ⟨i, rfl, hk2⟩ := numN_den hk1
  simp only [SV.Rel] at hx
  subst hx
  exact ⟨i, rfl, ρ', h1, n1, hH', hbd', hI.mono hle, hk2⟩
end SX
end Go.Proofs.YtnjaaagiindclaaGreatDoor

/-
  (*mheap.Heap).Spans, whatever spans there are: their numbers, sorted. No condition.
-/
namespace Go.Proofs.YtnjaaagiindclaaGreatDoor
open Go.RowKit Go.Deep

def intE (z : Int) : Value := .int .i64 z
theorem int_info : (Tryz.prog.info? 3).map (fun i => (i.zero, i.size, i.bytes)) = some (some (.int .i64 0), 1, 8) := by kernel_rfl
theorem nodup_le' {α : Type} : ∀ {D K : List α}, D.Nodup → (∀ p ∈ D, p ∈ K) → D.length ≤ K.length
  | [], _, _, _ => Nat.zero_le _
  | x :: D, K, hD, hs => by
    rw [List.nodup_cons] at hD
    obtain ⟨a, b, rfl⟩ := List.append_of_mem (hs x (by simp))
    have h1 := nodup_le' (K := a ++ b) hD.2 (fun p hp => by
      rcases List.mem_append.1 (hs p (List.mem_cons_of_mem _ hp)) with h | h
      · exact List.mem_append.2 (.inl h)
      · rcases List.mem_cons.1 h with rfl | h
        · exact absurd hp hD.1
        · exact List.mem_append.2 (.inr h))
    simp only [List.length_append, List.length_cons] at h1 ⊢
    omega
theorem nodup_snoc_rev {D : List Int} {z : Int} : (z :: D).reverse = D.reverse ++ [z] := by simp
/-- where the walk over the spans stands -/
def SpI (w : World) (bm : Nat) (es : List (Int × Value)) (k : Nat) (n : Value) (wr : World) : Prop :=
  Fr (fun _ => False) w wr ∧ ∃ D : List Int, k + D.length = es.length ∧ D.Nodup ∧ (∀ z ∈ D, z ∈ es.map (·.1)) ∧ wr.ownsRow w.heap.size 3 1 n D.length (D.reverse.map intE) ∧ Iter intE wr (w.heap.size + 1) bm es D
/-- what the closure holds -/
def Held (p : Prop) : Prop := p
theorem hold {p : Prop} (h : Held p) : p := h
def boxO (bh : Nat) : Obj := .cells #[.pointer (some ⟨bh, 0, none⟩)] 75 (0, 0)
/-- what is asked of the sort, of a row that holds all keys -/
def SortsTo (w : World) (bh : Nat) (es : List (Int × Value)) (Post : Value → World → Prop) : Prop := ∀ (W : World) (x : Value) (D : List Int), Fr (fun _ => False) w W → W.heap[w.heap.size]? = some (boxO bh) → D.Nodup → D.length = es.length → (∀ z ∈ D, z ∈ es.map (·.1)) →
  (∀ b, x.ownBlock = some b → b ≠ w.heap.size) → W.ownsRow w.heap.size 3 1 x es.length (D.map intE) →
  Calls Tryz.prog 78 #[x, .func (.func 79) #[] #[.pointer (some ⟨w.heap.size, 0, none⟩)]] W fun e w' => e = .returned (.tuple #[]) ∧ Post x w'
set_option maxRecDepth 100000 in
set_option maxHeartbeats 4000000 in
theorem spans_walk {bh bm : Nat} {es : List (Int × Value)} {Post : Value → World → Prop} (w : World) (h4 : w.cell? ⟨bh, 4, none⟩ = some (.map (some bm))) (hm : MapIs intE w bm es) (hl : es.length ≤ 1000000) (hS : SortsTo w bh es Post) :
    Calls Tryz.prog 33 #[.pointer (some ⟨bh, 0, none⟩)] w fun e w' => ∃ x, e = .returned x ∧ Post x w' := by
  obtain ⟨i0, hi, hz0, hz1, hz2⟩ := info_parts int_info
  have hbm : bm < w.heap.size := by obtain ⟨_, _, hb, _⟩ := hm; exact lt_blk hb
  have hm1 := Lib.hid (fun o => hm.fr ((Fr.refl (fun _ => False) w).alloc o) (fun x => x))
  have hnd := Lib.hid hm.nodup
  have h4' : ∀ o, (w.alloc o).cell? ⟨bh, 4, none⟩ = some (.map (some bm)) := fun o => (World.cell?_of_block (heap_alloc_ne (World.block_lt_of_cell? _ _ h4))).trans h4
  replace hS := Lib.hid hS
  clear hm h4
  go_enter Tryz.func33, Tryz.ntmps33
  go_wp2_with (refine wpList_iter_new (by rfl) Tryz.underlying137 _ (by rfl) (hm1.out _) (by rfl) ?_; intro oo hit; go_simp)
  go_loopg [3] es.length (fun k n wr => Hid (SpI w bm es k n wr ∧ wr.heap[w.heap.size]? = some (boxO bh)))
  case atStart =>
    refine Lib.hid ⟨⟨((Fr.refl _ w).alloc _).alloc _, [], by simp, by simp, by simp, ⟨by simp, .inl ⟨rfl, rfl⟩⟩, by simpa only [size_alloc] using hit⟩, ?_⟩
    rw [heap_alloc_ne (by rw [size_alloc]; exact Nat.lt_succ_self _), heap_alloc, if_pos rfl]
    rfl
  case round =>
    obtain ⟨hH, hC⟩ := hrel.out
    have HF := Lib.hid hH.1
    have HC := Lib.hid hC
    have hne : w.heap.size + 1 ≠ bm := by omega
    obtain ⟨_, D, hk, hD1, hD2, ho, hI⟩ := hH
    rcases run_iter_next (P := Tryz.prog) hI hne 0 with ⟨hall, hr⟩ | ⟨⟨pk, pv⟩, hp, hpd, wn, hr, hk1, hk2, hk3⟩
    · have hlen : D.length = es.length := by
        have h1 := nodup_le hnd.out hD1 (fun z hz => by obtain ⟨p, hp, rfl⟩ := List.mem_map.1 hz; exact hall p hp)
        rw [List.length_map] at h1
        omega
      have HO := Lib.hid (show wr.ownsRow w.heap.size 3 1 u3 es.length (D.reverse.map intE) by rw [← hlen]; exact ho)
      have hsort := Lib.hid (hS.out wr u3 D.reverse HF.out HC.out (List.pairwise_reverse.2 (hD1.imp fun h => h.symm)) (by rw [List.length_reverse]; exact hlen) (fun z hz => hD2 z (List.mem_reverse.1 hz)) (fun b hb e => by
        subst e
        obtain ⟨cur, hcur⟩ := ownsRow_blk ho hb
        have h2 := HC.out
        rw [hcur] at h2
        have h3 : (3 : Nat) = 75 := by
          injection h2 with h2
          injection h2
        exact absurd h3 (by decide)) HO.out)
      clear hall hI hrel hit ho HO hC hk hD1 hD2 hlen
      go_wp2_with (first | (refine wpList_next_run (by rfl) _ (by rfl) (by rfl) hr ?_; clear hr) | (go_at_call 78; refine hsort.out.mono ?_; rintro e w5 ⟨rfl, ho5⟩; replace ho5 := Lib.hid ho5))
      go_ret
      exact ⟨_, rfl, ho5.out⟩
    · have HI0 := Lib.hid hI
      have HI := Lib.hid hk1
      have HN := Lib.hid hk2
      have HO := Lib.hid ho
      have HD := Lib.hid (And.intro hk (And.intro hD1 (And.intro hD2 (And.intro hp hpd))))
      clear hp hpd hk1 hk2 hI hrel hit ho hk hD1 hD2 hC
      simp only [intE] at hr hk3
      go_wp2_with (first | (refine wpList_next_run (by rfl) _ (by rfl) (by rfl) hr ?_; clear hr) | (refine wpList_entry (by rfl) _ (by rfl) (by rfl) hk3 ?_; clear hk3) | (at_builtin; refine hold ?_))
      unfold Held
      have hfn : Fr (fun _ => False) w wn := HF.out.trans HN.out (fun b hb e => by omega)
      have hnI : ∀ g, u3.ownBlock = some g → g ≠ w.heap.size + 1 ∧ g ≠ bm ∧ g ≠ w.heap.size := fun g hg => by
        obtain ⟨cur, hcur⟩ := ownsRow_blk HO.out hg
        obtain ⟨es', cl, si, se, la, h1, h2, _⟩ := HI0.out
        refine ⟨fun e => ?_, fun e => ?_, fun e => ?_⟩
        · subst e; rw [hcur] at h2; cases h2
        · subst e; rw [hcur] at h1; cases h1
        · subst e
          have h3 := HC.out
          rw [hcur] at h3
          have h3 : (3 : Nat) = 75 := by
            injection h3 with h3
            injection h3
          exact absurd h3 (by decide)
      have hOn : wn.ownsRow w.heap.size 3 1 u3 D.length (D.reverse.map intE) := ownsRow_keep HO.out HN.out (fun g hg e => (hnI g hg).1 e)
      have hbx : wn.heap[w.heap.size]? = some (boxO bh) := HN.out.at HC.out (by omega)
      have hlD : D.length < es.length := by
        obtain ⟨h1, h2, h3, h4, h5⟩ := HD.out
        have h6 := nodup_le (D := pk :: D) (List.nodup_cons.2 ⟨h5, h2⟩) hnd.out (fun z hz => by
          rcases List.mem_cons.1 hz with rfl | hz
          · exact List.mem_map.2 ⟨(z, pv), h4, rfl⟩
          · exact h3 z hz)
        rw [List.length_cons, List.length_map] at h6
        omega
      refine wpList_append_rd (w0 := w) (S := fun _ => False) rfl _ _ 45 rfl 3 i0 _ 1 8 Tryz.underlying45 hi hz0 hz1 hz2 rfl (by decide) u3 D.length (D.reverse.map intE) rfl (ownsRow_keep hOn ((Fr.refl (fun _ => False) wn).alloc _) (fun g hg e => e)) (hfn.alloc _) _ 1 [.int .i64 pk] rfl
        (Rd.new (t := 3) (by rw [heap_alloc, if_pos rfl]) 1 1 (by simp)) (by simp [Value.oneCell']) (by simp [maxLen]; omega) (by omega) ?_
      intro v' w5 hown hf5 hg5
      have hit5 : Iter intE w5 (w.heap.size + 1) bm es (pk :: D) := ((HI.out.fr ((Fr.refl (fun _ => False) wn).alloc _) (fun x => x) (fun x => x)).fr hg5 (fun e => (hnI _ e.symm).1 rfl) (fun e => (hnI _ e.symm).2.1 rfl))
      have hbx5 : w5.heap[w.heap.size]? = some (boxO bh) := hg5.at (by rw [heap_alloc_ne (lt_blk hbx)]; exact hbx) (fun e => (hnI _ e.symm).2.2 rfl)
      replace hown := Lib.hid hown
      replace hit5 := Lib.hid hit5
      replace hf5 := Lib.hid hf5
      replace hbx5 := Lib.hid hbx5
      have hlD := Lib.hid hlD
      clear hg5 hfn HF HI HN HI0 hnI hOn hbx HC HO
      go_wp2
      go_roundg (es.length - (D.length + 1))
      case measure => have := hlD.out; have := HD.out.1; omega
      case rel =>
        obtain ⟨h1, h2, h3, h4, h5⟩ := HD.out
        have := hlD.out
        refine Lib.hid ⟨⟨hf5.out, pk :: D, by rw [List.length_cons]; omega, List.nodup_cons.2 ⟨h5, h2⟩, fun z hz => ?_, ?_, hit5.out⟩, hbx5.out⟩
        · rcases List.mem_cons.1 hz with rfl | hz
          · exact List.mem_map.2 ⟨(z, pv), h4, rfl⟩
          · exact h3 z hz
        · rw [nodup_snoc_rev, List.map_append, List.length_cons]
          exact hown.out
namespace SX
/-- all orders of a row -/
def ins (x : Int) : List Int → List (List Int)
  | [] => [[x]]
  | y :: l => (x :: y :: l) :: (ins x l).map (y :: ·)
def perms : List Int → List (List Int)
  | [] => [[]]
  | x :: l => (perms l).flatMap (ins x)
theorem ins_mem {x : Int} : ∀ (a b : List Int), a ++ x :: b ∈ ins x (a ++ b)
  | [], [] => by simp [ins]
  | [], y :: l => by simp [ins]
  | y :: a, b => by
    simp only [List.cons_append, ins, List.mem_cons, List.mem_map]
    exact .inr ⟨_, ins_mem a b, rfl⟩
theorem perms_mem : ∀ {K D : List Int}, D.Nodup → D.length = K.length → (∀ z ∈ D, z ∈ K) → D ∈ perms K
  | [], D, _, hl, _ => by
    have : D = [] := List.eq_nil_of_length_eq_zero hl
    subst this; simp [perms]
  | x :: K, D, hn, hl, hs => by
    have hx : x ∈ D := by
      apply Classical.byContradiction
      intro hx
      have hs' : ∀ z ∈ D, z ∈ K := fun z hz => (List.mem_cons.1 (hs z hz)).elim (fun e => absurd (e ▸ hz) hx) id
      have h1 := nodup_le' hn hs'
      rw [List.length_cons] at hl
      omega
    obtain ⟨a, b, rfl⟩ := List.append_of_mem hx
    have hn' := List.nodup_append.1 hn
    obtain ⟨h1, h2, h3⟩ := hn'
    rw [List.nodup_cons] at h2
    simp only [perms, List.mem_flatMap]
    refine ⟨a ++ b, perms_mem (List.nodup_append.2 ⟨h1, h2.2, fun y hy z hz => h3 y hy z (List.mem_cons_of_mem _ hz)⟩) ?_ fun z hz => ?_, ins_mem a b⟩
    · simp only [List.length_append, List.length_cons] at hl ⊢; omega
    · have hz' : z ∈ a ++ x :: b := by
        rcases List.mem_append.1 hz with h | h
        · exact List.mem_append.2 (.inl h)
        · exact List.mem_append.2 (.inr (List.mem_cons_of_mem _ h))
      refine (List.mem_cons.1 (hs z hz')).elim (fun e => ?_) id
      subst e
      rcases List.mem_append.1 hz with h | h
      · exact absurd rfl (h3 z h z (by simp))
      · exact absurd h h2.1
end SX
end Go.Proofs.YtnjaaagiindclaaGreatDoor

/-
  SX: Spans where few spans are: whatever order the map gives, the sort ends alike.
-/
namespace Go.Proofs.YtnjaaagiindclaaGreatDoor
open Go.RowKit Go.Deep
namespace SX
def cellsAt (t : TypeId) : SObj → Option (List SV)
  | .cells u cs => if Nat.beq t u then some cs else none
  | _ => none
theorem cellsAt_is {t : TypeId} {o : SObj} {cs : List SV} (h : cellsAt t o = some cs) : o = .cells t cs := by
  cases o with
  | cells u c =>
    have h' : (if Nat.beq t u then some c else none) = some cs := h
    split at h'
    next e =>
      have := Nat.eq_of_beq_eq_true e
      subst this
      injection h' with h'
      rw [h']
    · cases h'
  | _ => cases h
def keysOf : SObj → Option (List Int)
  | .mp k es => (match k, es with
    | .int i, es => if isK i .i64 then some (List.map (fun e : Int × SV => e.1) es) else none
    | .str, _ => none
    | .non, _ => none)
  | _ => none
theorem keysOf_is {o : SObj} {ks : List Int} (h : keysOf o = some ks) : ∃ es : List (Int × SV), o = .mp (.int .i64) es ∧ ks = es.map (·.1) := by
  cases o with
  | mp k es =>
    cases k with
    | int i =>
      have h' : (if isK i .i64 then some (List.map (fun e : Int × SV => e.1) es) else none) = some ks := h
      split at h'
      next e =>
        have := isK_eq e
        subst this
        injection h' with h'
        exact ⟨es, rfl, h'.symm⟩
      · cases h'
    | str => cases h
    | non => cases h
  | _ => cases h
def rowI (l : List Int) : List SV := l.map fun z => .l .i64 z
/-- the sort of a row, from there on -/
noncomputable def sortAt (so : Spec) (h : Heap) (n a : Nat) (D : List Int) (K : Bool → SV → Heap → Nat → Tree) : Tree :=
  so [.sl true n 1 0 D.length (.o (n + 1) 0), .fn 79 [.p (n + 2) (.c 0)]] ((n + 2, .cells 75 [.p a (.c 0)]) :: (n, .vec 3 1 (rowI D) (.o (n + 1) 0)) :: h) (n + 3) K
noncomputable def sortsAll (so : Spec) (h : Heap) (n a : Nat) (E : Heap) (K : Tree) (P : List (List Int)) : Tree :=
  List.rec (motive := fun _ => Tree) K (fun D _ ih => .both (sortAt so h n a D fun b v h' n' => if b && (v.beq (resV []) && (Nat.ble n' (n + 4096) && subH h' E)) then .stop else .fail 929) ih) P
theorem sortsAll_den {so : Spec} {h : Heap} {n a : Nat} {E : Heap} {K : Tree} {Q : Ex → St → Prop} : ∀ {P : List (List Int)}, (sortsAll so h n a E K P).den Q → K.den Q ∧ ∀ D ∈ P, (sortAt so h n a D fun b v h' n' => if b && (v.beq (resV []) && (Nat.ble n' (n + 4096) && subH h' E)) then .stop else .fail 929).den Q
  | [], hd => ⟨hd, by simp⟩
  | D :: P, hd => by
    have hd' : (sortAt so h n a D fun b v h' n' => if b && (v.beq (resV []) && (Nat.ble n' (n + 4096) && subH h' E)) then .stop else .fail 929).den Q ∧ (sortsAll so h n a E K P).den Q := hd
    obtain ⟨h1, h2⟩ := sortsAll_den hd'.2
    refine ⟨h1, fun D' hD => ?_⟩
    rcases List.mem_cons.1 hD with rfl | hD
    · exact hd'.1
    · exact h2 D' hD
/-- by rising base, where that is known -/
noncomputable def baseAt (h : Heap) (es : List (Int × SV)) (z : Int) : Int := match es with
  | [] => 0
  | e :: es => if zB e.1 z then (match e.2 with
    | .p b _ => (match h.get b with
      | some o => (match o with
        | .cells _ cs => (match lget cs 0 with | .l _ u => u | _ => 0)
        | _ => 0)
      | none => 0)
    | _ => 0) else baseAt h es z
def insB (f : Int → Int) (z : Int) : List Int → List Int
  | [] => [z]
  | y :: l => if @decide (f z < f y) (Int.decLt _ _) then z :: y :: l else y :: insB f z l
def sortB (f : Int → Int) : List Int → List Int
  | [] => []
  | z :: l => insB f z (sortB f l)
def entsOf : SObj → List (Int × SV)
  | .mp k es => (match k, es with
    | .int _, es => es
    | .str, _ => []
    | .non, _ => [])
  | _ => []
noncomputable def spSpans (so : Spec) : Spec := fun args h n K => match args with
  | [x] => (match x with
    | .p a f => (match f with
      | .c z => if Nat.beq z 0 then (match h.get a with
        | some o => (match cellsAt 141 o with
          | some cs => if Nat.blt 4 cs.length then (match lget cs 4 with
            | .m b => (match h.get b with
              | some u => (match keysOf u with
                | some ks => if Nat.blt ks.length 9 && Nat.blt 0 ks.length then
                    sortsAll so h n a ((n, .vec 3 1 (rowI (sortB (baseAt h (entsOf u)) ks)) (.o (n + 1) 0)) :: h)
                      (K true (.sl true n 1 0 ks.length (.o (n + 1) 0)) ((n, .vec 3 1 (rowI (sortB (baseAt h (entsOf u)) ks)) (.o (n + 1) 0)) :: h) (n + 4096)) (perms ks) else .fail 930
                | none => .fail 931)
              | none => .fail 932)
            | _ => .fail 933) else .fail 934
          | none => .fail 935)
        | none => .fail 936) else .fail 937
      | _ => .fail 938)
    | _ => .fail 939)
  | _ => .fail 940
theorem MR.keys {ρ : Ren} : ∀ {es : List (Int × SV)} {m : List (Int × Value)}, MR ρ es m → m.map (·.1) = es.map (·.1)
  | [], _, r => by rw [show _ = [] from r]; rfl
  | e :: es, _, ⟨v, q, e1, _, r⟩ => by rw [e1, List.map_cons, List.map_cons, MR.keys r]
theorem spSpans_ok {𝔅 : BigRep} {so : Spec} (hso : SpecEnters Tryz.prog 𝔅 78 so) : SpecEnters Tryz.prog 𝔅 33 (spSpans so) where
  enter := enter_of Tryz.func33 (bodyOf_eq (by kernel_rfl)) (by kernel_rfl)
  calls := by
    intro C Q args h n K hB hk ρ w vs hv hH hbd
    unfold spSpans at hk
    split at hk <;> try exact hk.elim
    split at hk <;> try exact hk.elim
    split at hk <;> try exact hk.elim
    split at hk <;> try exact hk.elim
    split at hk <;> try exact hk.elim
    split at hk <;> try exact hk.elim
    split at hk <;> try exact hk.elim
    split at hk <;> try exact hk.elim
    split at hk <;> try exact hk.elim
    split at hk <;> try exact hk.elim
    split at hk <;> try exact hk.elim
    rename_i x0 a f0 z hz oo o ho oc cs hcs hlen x4 b hb ou u hu ok ks hks hkl
    obtain ⟨es, rfl, rfl⟩ := keysOf_is hks
    have ho' := cellsAt_is hcs
    subst ho'
    have hz' := Nat.eq_of_beq_eq_true hz
    subst hz'
    obtain ⟨v1, us, e1, hx, rfl⟩ := hv
    simp only [SV.Rel] at hx
    obtain ⟨g, hg, rfl⟩ := hx
    have e2 : vs = #[.pointer (some ⟨g, 0, none⟩)] := by rw [← Array.toList_inj, e1]; rfl
    subst e2
    obtain ⟨hK, hP⟩ := sortsAll_den hk
    obtain ⟨G, R', ⟨g', c, hg', rfl, hc⟩, hp, _⟩ := hH.focus ho
    have eg := hg.symm.trans hg'
    injection eg with eg
    subst eg
    have hlen' : 4 < cs.length := by simpa [Nat.blt_eq] using hlen
    obtain ⟨v4, hv4, hr4⟩ := hc.get? hlen'
    rw [hb] at hr4
    simp only [SV.Rel] at hr4
    obtain ⟨bm, hbm, rfl⟩ := hr4
    obtain ⟨G2, R2, ⟨g2, m2, hg2, hm2, hG2⟩, hp2, _⟩ := hH.focus hu
    have eg := hbm.symm.trans hg2
    injection eg with eg
    subst eg
    obtain ⟨m3, hm3⟩ : ∃ m3 : List (Int × Value), m3 = m2 := ⟨m2, rfl⟩
    subst hm3
    have hkeys : m3.map (·.1) = es.map (·.1) := MR.keys hm2
    have hM : MapIs intE w bm m3 := hp2.map hG2
    have hml : m3.length = es.length := (List.length_map ..).symm.trans ((congrArg List.length hkeys).trans (List.length_map ..))
    rw [Bool.and_eq_true, Nat.blt_eq, Nat.blt_eq] at hkl
    simp only [List.length_map] at hkl
    have hgl : g < w.heap.size := lt_blk hp.blk
    refine (spans_walk (Post := fun x w' => ∃ ρ', SV.Rel ρ' (.sl true n 1 0 (es.map (·.1)).length (.o (n + 1) 0)) x ∧ Holds C ρ' ((n, .vec 3 1 (rowI (sortB (baseAt h (entsOf (.mp (.int .i64) es))) (es.map (·.1)))) (.o (n + 1) 0)) :: h) w' ∧ ρ.le ρ' ∧ ρ'.bd (n + 4096)) w (by rw [hp.cell 4, ← Array.getElem?_toList, hv4]) hM (by omega) ?_).mono ?_
    · intro W x D hf hbx hnd hDl hDs hxb hown
      have hDp : D ∈ perms (es.map (·.1)) := perms_mem hnd (by rw [hDl, hml, List.length_map]) (fun z hz => by rw [← hkeys]; exact hDs z hz)
      obtain ⟨_, ⟨rfl, h0⟩ | ⟨gr, cap, cur, rfl, hA, hcur, h1, hmax, hsz, htk⟩⟩ := hown
      · omega
      have hne : gr ≠ w.heap.size := hxb gr rfl
      have hlD : D.length = es.length := by rw [hDl, hml]
      let ρ2 := upd (upd (upd ρ n gr) (n + 1) cap) (n + 2) w.heap.size
      have b1 := upd_bd (g := gr) hbd
      have b2 := upd_bd (g := cap) b1
      have b3 := upd_bd (g := w.heap.size) b2
      have l1 := upd_le (g := gr) (hbd n (Nat.le_refl _))
      have l2 := upd_le (g := cap) (b1 (n + 1) (Nat.le_refl _))
      have l3 := upd_le (g := w.heap.size) (b2 (n + 2) (Nat.le_refl _))
      have hle : ρ.le ρ2 := fun i y e => l3 _ _ (l2 _ _ (l1 _ _ e))
      have at0 : ρ2 n = some gr := l3 _ _ (l2 _ _ (upd_at _ _ _))
      have at1 : ρ2 (n + 1) = some cap := l3 _ _ (upd_at _ _ _)
      have at2 : ρ2 (n + 2) = some w.heap.size := upd_at _ _ _
      have hrow : Rep C.B ρ2 n (.vec 3 1 (rowI D) (.o (n + 1) 0)) [(gr, .cells cur 3 (0, 0))] := by
        refine ⟨cap, ⟨cap, at1, rfl⟩, by simp [rowI]; omega, hmax, .inr ⟨gr, cur, at0, rfl, hsz, ?_⟩⟩
        have e3 : (rowI D).length = m3.length * 1 := by simp [rowI]; omega
        rw [e3, htk]
        unfold rowI
        exact RelL.map fun z _ => by simp only [SV.Rel, intE]
      have hbox : Rep C.B ρ2 (n + 2) (.cells 75 [.p a (.c 0)]) [(w.heap.size, boxO g)] := ⟨w.heap.size, _, at2, rfl, .cons (by simp only [SV.Rel]; exact ⟨g, hle _ _ hg, rfl⟩) .nil⟩
      have H2 : Holds C ρ2 ((n + 2, .cells 75 [.p a (.c 0)]) :: (n, .vec 3 1 (rowI D) (.o (n + 1) 0)) :: h) W := by
        obtain ⟨Gs, hr, hp0⟩ := hH
        refine ⟨_ :: _ :: Gs, ⟨_, _, rfl, hbox, _, _, rfl, hrow, hr.mono hle⟩, ?_⟩
        have q0 : Hp C.I W (Gs ++ C.R) := hp0.quiet hf
        have q1 : Hp C.I W ([(gr, .cells cur 3 (0, 0))] :: (Gs ++ C.R)) := by
          refine ⟨q0.io, ?_, fun y hy => ?_⟩
          · rw [List.flatten_cons, List.map_append]
            show (gr :: (Gs ++ C.R).flatten.map Prod.fst).Nodup
            rw [List.nodup_cons]
            refine ⟨fun hm => ?_, q0.nd⟩
            obtain ⟨y, hy, he⟩ := List.mem_map.1 hm
            have := hp0.lt hy
            omega
          · rw [List.flatten_cons, List.mem_append] at hy
            rcases hy with hy | hy
            · rw [List.mem_singleton.1 hy]; exact hcur
            · exact q0.has y hy
        refine ⟨q1.io, ?_, fun y hy => ?_⟩
        · show (([(w.heap.size, boxO g)] ++ ([(gr, Obj.cells cur 3 (0, 0))] :: (Gs ++ C.R)).flatten).map Prod.fst).Nodup
          rw [List.map_append]
          show (w.heap.size :: ([(gr, Obj.cells cur 3 (0, 0))] :: (Gs ++ C.R)).flatten.map Prod.fst).Nodup
          rw [List.nodup_cons]
          refine ⟨fun hm => ?_, q1.nd⟩
          obtain ⟨y, hy, he⟩ := List.mem_map.1 hm
          rw [List.flatten_cons, List.mem_append] at hy
          rcases hy with hy | hy
          · rw [List.mem_singleton.1 hy] at he; exact hne he
          · have := hp0.lt hy
            omega
        · have hy' : y ∈ [(w.heap.size, boxO g)] ++ ([(gr, Obj.cells cur 3 (0, 0))] :: (Gs ++ C.R)).flatten := hy
          rcases List.mem_append.1 hy' with hy | hy
          · rw [List.mem_singleton.1 hy]; exact hbx
          · exact q1.has y hy
      have hargs : RelL ρ2 [.sl true n 1 0 D.length (.o (n + 1) 0), .fn 79 [.p (n + 2) (.c 0)]] (#[.slice (some ⟨gr, 0, none⟩) m3.length cap, .func (.func 79) #[] #[.pointer (some ⟨w.heap.size, 0, none⟩)]] : Array Value).toList := by
        refine .cons ?_ (.cons ?_ .nil)
        · simp only [SV.Rel]
          exact ⟨_, cap, by rw [hDl], ⟨cap, at1, rfl⟩, by omega, fun _ => ⟨gr, at0, fun _ => rfl⟩⟩
        · simp only [SV.Rel]
          exact ⟨_, rfl, .cons (by simp only [SV.Rel]; exact ⟨_, at2, rfl⟩) .nil⟩
      refine (hso.calls C Q _ _ (n + 3) _ hB (hP D hDp) ρ2 W _ hargs H2 b3).mono ?_
      rintro e w' ⟨bb, v, x, h', n', ρ', rfl, hx, hH', hle', hbd', hkk⟩
      have hkk' : (if bb && (x.beq (resV []) && (Nat.ble n' (n + 4096) && subH h' ((n, .vec 3 1 (rowI (sortB (baseAt h (entsOf (.mp (.int .i64) es))) (es.map (·.1)))) (.o (n + 1) 0)) :: h))) then Tree.stop else .fail 929).den Q := hkk
      split at hkk'
      next hc =>
        simp only [Bool.and_eq_true] at hc
        obtain ⟨rfl, hx2, hn2, hsub⟩ := hc
        have hx3 := SV.beq_eq _ _ hx2
        subst hx3
        have hn3 := Nat.le_of_ble_eq_true hn2
        refine ⟨?_, ρ', ?_, hH'.sub hsub, hle.trans hle', hbd'.mono hn3⟩
        · simp only [resV, SV.Rel] at hx
          obtain ⟨cs', rfl, hcs'⟩ := hx
          have : cs' = #[] := by
            have h0 : cs'.toList = [] := hcs'
            rw [← Array.toList_inj, h0]
          rw [this]
          rfl
        · have h5 := SV.Rel.mono hle' _ _ (RelL.uncons hargs).1
          rw [List.length_map, ← hml, ← hDl]
          rw [← hDl] at h5
          exact h5
      · exact hkk'.elim
    · rintro e w' ⟨x, rfl, ρ', hx, hH', hle', hbd'⟩
      exact ⟨true, x, _, _, _, ρ', rfl, hx, hH', hle', hbd', hK⟩
end SX
end Go.Proofs.YtnjaaagiindclaaGreatDoor

/-
  The contracts of awake.
-/
namespace Go.Proofs.YtnjaaagiindclaaGreatDoor
open Go.RowKit Go.Deep
namespace SX

noncomputable def soS : Spec := runP Tryz.prog wt2 78 Tryz.f78
noncomputable def wtA : List (FuncId × Spec) := (33, spSpans soS) :: (168, spTz) :: wt2
theorem wtA_ok {W : World} (hL : Laid W) (lo hi : Nat) : ∀ x ∈ wtA, SpecOk Tryz.prog (numB W lo hi) x.1 x.2 :=
  cons_ok (.inl (spSpans_ok (runP_ok fit (wt2_ok (numB_s W lo hi)) Tryz.func78 (by kernel_rfl)))) (cons_ok (.inl (spTz_ok (fun _ _ h => h) hL)) (wt2_ok (numB_s W lo hi)))
end SX
end Go.Proofs.YtnjaaagiindclaaGreatDoor
