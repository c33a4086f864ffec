/-
  Part 22 of what the statement leans on: L5, Zf, Gc, Zr, Skip.
-/
import Derived.Test.YtnjaaagiindclaaGreatDoorPk1
import Derived.Test.YtnjaaagiindclaaGreatDoorPk15
import Derived.Test.YtnjaaagiindclaaGreatDoorPk16
import Derived.Test.YtnjaaagiindclaaGreatDoorPk19
import Derived.Test.YtnjaaagiindclaaGreatDoorPk20
import Derived.Test.YtnjaaagiindclaaGreatDoorPk21
import Derived.StillTail
import Derived.StillTailTactics
/-
  The second P holds nothing: it gives nothing back.
-/
namespace Go.Proofs.YtnjaaagiindclaaGreatDoor
open Go.RowKit Go.Deep
namespace SX
/- L5s r: 1 objects of 1 -/
def L5sn : Nat := 100000
def L5sh0 (h : Heap) : Heap :=
  (120, .cells 156 ((q 115) :: (j 1) :: (rp_ 136 (j 0) [(u 0), (j 0)]))) :: h
def L5sh : Heap := L5sh0 []
/- L5 r: 1 objects of 69 -/
def L5v : SV := (j 0)
def L5n : Nat := 100068
def L5h0 (h : Heap) : Heap :=
  (120, .cells 156 ((q 115) :: (j 1) :: (rp_ 136 (j 0) [(u 0), (j 0)]))) :: h
def L5h : Heap := L5h0 []
def L5i : List Nat := [120]
def L5a : List SV := [.p 120 (.c 0)]
set_option maxRecDepth 100000 in
theorem L5_sure : (runP Tryz.prog wtI 74 Tryz.f74 L5a L5sh L5sn tellK).sure (isRes L5v L5h L5n) = true := by kernel_rfl
noncomputable def L5p : Spec := locSpec L5i L5a L5sh L5sn L5v L5h L5n
theorem L5_ok {W : World} (hL : Laid W) (lo hi : Nat) : SpecEnters Tryz.prog (numB W lo hi) 74 L5p := loc_ok (runP_ok fit (wtI_ok hL lo hi) Tryz.func74 (by kernel_rfl)) L5_sure
end SX
end Go.Proofs.YtnjaaagiindclaaGreatDoor

/-
  The contracts of closed runs, with the page finder at the states that the classes share. The table of TrailingZeros64 lies.
-/
namespace Go.Proofs.YtnjaaagiindclaaGreatDoor
open Go.RowKit Go.Deep
namespace SX
noncomputable def fin4S : Spec := pickS (locB L1i L1a L1sh) L1p (pickS (locB L2i L2a L2sh) L2p (pickS (locB L3i L3a L3sh) L3p (pickS (locB L4i L4a L4sh) L4p (runP Tryz.prog wtI 164 Tryz.f164))))
theorem fin4S_ok {W : World} (hL : Laid W) (lo hi : Nat) : SpecEnters Tryz.prog (numB W lo hi) 164 fin4S :=
  pickS_ok (L1_ok hL lo hi) (pickS_ok (L2_ok hL lo hi) (pickS_ok (L3_ok hL lo hi) (pickS_ok (L4_ok hL lo hi) (runP_ok fit (wtI_ok hL lo hi) Tryz.func164 (by kernel_rfl)))))
noncomputable def fluS : Spec := pickS (locB L5i L5a L5sh) L5p (runP Tryz.prog wtI 74 Tryz.f74)
theorem fluS_ok {W : World} (hL : Laid W) (lo hi : Nat) : SpecEnters Tryz.prog (numB W lo hi) 74 fluS := pickS_ok (L5_ok hL lo hi) (runP_ok fit (wtI_ok hL lo hi) Tryz.func74 (by kernel_rfl))
noncomputable def wtF : List (FuncId × Spec) := (164, fin4S) :: (74, fluS) :: wtI
theorem wtF_ok {W : World} (hL : Laid W) (lo hi : Nat) : ∀ x ∈ wtF, SpecOk Tryz.prog (numB W lo hi) x.1 x.2 := cons_ok (.inl (fin4S_ok hL lo hi)) (cons_ok (.inl (fluS_ok hL lo hi)) (wtI_ok hL lo hi))
end SX
end Go.Proofs.YtnjaaagiindclaaGreatDoor

/-
  SX: what nothing reaches is let go behind a call. No program in sight.
-/
namespace Go.Proofs.YtnjaaagiindclaaGreatDoor
open Go.RowKit Go.Deep
namespace SX
noncomputable def frc (a : Nat) (k : Nat → Tree) : Tree := Nat.rec (motive := fun _ => Tree) (k 0) (fun m _ => k (Nat.succ m)) a
theorem frc_eq (a : Nat) (k : Nat → Tree) : frc a k = k a := by cases a <;> rfl
def bitM (b : Nat) : Nat := Nat.shiftLeft 1 b
def hasM (M b : Nat) : Bool := Nat.beq (Nat.mod (Nat.shiftRight M b) 2) 1
def Cap.mask : Cap → Nat
  | .o i _ => bitM i
  | _ => 0
mutual
def SV.mask : SV → Nat
  | .p b _ => bitM b
  | .sl _ b _ _ _ c => Nat.lor (bitM b) c.mask
  | .m b => bitM b
  | .nu b => bitM b
  | .fn _ l => maskL l
  | .ifc _ x => x.mask
  | .agg l => maskL l
  | .tup l => maskL l
  | _ => 0
def maskL : List SV → Nat
  | [] => 0
  | x :: l => Nat.lor x.mask (maskL l)
end
def maskE {κ : Type} : List (κ × SV) → Nat
  | [] => 0
  | e :: es => Nat.lor e.2.mask (maskE es)
def SObj.mask : SObj → Nat
  | .cells _ cs => maskL cs
  | .vec _ _ cs c => Nat.lor c.mask (maskL cs)
  | .mp k es => (match k, es with
    | .int _, es => maskE es
    | .str, es => maskE es
    | .non, _ => 0)
  | .it b => bitM b
  | _ => 0
/-- what each object names -/
noncomputable def masks (h : Heap) (k : List (Nat × Nat) → Tree) : Tree := List.rec (motive := fun _ => (List (Nat × Nat) → Tree) → Tree) (fun k => k []) (fun x _ ih k => frc x.2.mask fun m => ih fun l => k ((x.1, m) :: l)) h k
noncomputable def pass (ms : List (Nat × Nat)) (M : Nat) (k : Nat → Tree) : Tree := List.rec (motive := fun _ => Nat → Tree) (fun M => k M) (fun x _ ih M => Bool.rec (motive := fun _ => Tree) (ih M) (frc (Nat.lor M x.2) ih) (hasM M x.1)) ms M
noncomputable def marks (ms : List (Nat × Nat)) (f M : Nat) (k : Nat → Tree) : Tree := Nat.rec (motive := fun _ => Nat → Tree) (fun M => k M) (fun _ ih M => pass ms M fun M' => Bool.rec (motive := fun _ => Tree) (ih M') (k M') (Nat.beq M M')) f M
/-- some of a heap's objects -/
noncomputable def keepH (M : Nat) (h : Heap) (k : Heap → Tree) : Tree := List.rec (motive := fun _ => (Heap → Tree) → Tree) (fun k => k []) (fun x _ ih k => Bool.rec (motive := fun _ => Tree) (ih k) (ih fun l => k (x :: l)) (hasM M x.1)) h k
theorem masks_den {Q : Ex → St → Prop} : ∀ {h : Heap} {k : List (Nat × Nat) → Tree}, (masks h k).den Q → ∃ l, (k l).den Q
  | [], k, hd => ⟨[], hd⟩
  | x :: h, k, hd => by
    have hd' : (frc x.2.mask fun m => masks h fun l => k ((x.1, m) :: l)).den Q := hd
    rw [frc_eq] at hd'
    obtain ⟨l, hl⟩ := masks_den hd'
    exact ⟨_, hl⟩
theorem pass_den {Q : Ex → St → Prop} : ∀ {ms : List (Nat × Nat)} {M : Nat} {k : Nat → Tree}, (pass ms M k).den Q → ∃ M', (k M').den Q
  | [], M, k, hd => ⟨M, hd⟩
  | x :: ms, M, k, hd => by
    have hd' : (Bool.rec (motive := fun _ => Tree) (pass ms M k) (frc (Nat.lor M x.2) fun M => pass ms M k) (hasM M x.1)).den Q := hd
    cases hb : hasM M x.1 with
    | true => rw [hb] at hd'; have h2 : (frc (Nat.lor M x.2) fun M => pass ms M k).den Q := hd'; rw [frc_eq] at h2; exact pass_den h2
    | false => rw [hb] at hd'; exact pass_den hd'
theorem marks_den {Q : Ex → St → Prop} {ms : List (Nat × Nat)} {k : Nat → Tree} : ∀ {f M : Nat}, (marks ms f M k).den Q → ∃ M', (k M').den Q
  | 0, M, hd => ⟨M, hd⟩
  | f + 1, M, hd => by
    have hd' : (pass ms M fun M' => Bool.rec (motive := fun _ => Tree) (marks ms f M' k) (k M') (Nat.beq M M')).den Q := hd
    obtain ⟨M', h1⟩ := pass_den hd'
    cases hb : Nat.beq M M' with
    | true => rw [hb] at h1; exact ⟨M', h1⟩
    | false => rw [hb] at h1; exact marks_den h1
theorem Reps.filter {𝔅 : BigRep} {ρ : Ren} (p : Nat × SObj → Bool) : ∀ {h : Heap} {Gs : List Grp}, Reps 𝔅 ρ h Gs → ∃ Ks Ds, Reps 𝔅 ρ (h.filter p) Ks ∧ Gs.Perm (Ds ++ Ks)
  | [], Gs, r => ⟨[], [], rfl, by rw [show Gs = [] from r]; exact .refl _⟩
  | x :: h, Gs, r => by
    obtain ⟨G, Js, rfl, r1, r2⟩ := r
    obtain ⟨Ks, Ds, h1, h2⟩ := Reps.filter p r2
    cases hb : p x with
    | true => rw [List.filter_cons_of_pos hb]; exact ⟨G :: Ks, Ds, ⟨G, Ks, rfl, r1, h1⟩, (h2.cons _).trans List.perm_middle.symm⟩
    | false => rw [List.filter_cons_of_neg (by rw [hb]; exact Bool.false_ne_true)]; exact ⟨Ks, G :: Ds, h1, h2.cons _⟩
theorem Holds.filter {C : Ctx} {ρ : Ren} {h : Heap} {w : World} (p : Nat × SObj → Bool) (H : Holds C ρ h w) : Holds C ρ (h.filter p) w := by
  obtain ⟨Gs, hr, hp⟩ := H
  obtain ⟨Ks, Ds, h1, h2⟩ := Reps.filter p hr
  refine ⟨Ks, h1, ?_⟩
  have hp2 : Hp C.I w (Ds ++ (Ks ++ C.R)) := by
    rw [← List.append_assoc]
    exact hp.permG (h2.append_right _)
  clear hp h2
  induction Ds with
  | nil => exact hp2
  | cons D Ds ih => exact ih (by rw [List.cons_append] at hp2; exact hp2.drop)
theorem keepH_eq (M : Nat) : ∀ (h : Heap) (k : Heap → Tree), keepH M h k = k (h.filter fun x => hasM M x.1)
  | [], k => rfl
  | x :: h, k => by
    show Bool.rec (motive := fun _ => Tree) (keepH M h k) (keepH M h fun l => k (x :: l)) (hasM M x.1) = _
    cases hb : hasM M x.1 with
    | true =>
      rw [List.filter_cons_of_pos (by simp only [hb])]
      exact keepH_eq M h _
    | false =>
      rw [List.filter_cons_of_neg (by simp only [hb]; exact Bool.false_ne_true)]
      exact keepH_eq M h k
/-- what is neither below a number nor reached is let go -/
noncomputable def gcS (m : Nat) (sp : Spec) : Spec := fun args h n K => sp args h n fun b x h1 n1 =>
  masks h1 fun ms => marks ms 12 (Nat.lor (Nat.sub (Nat.shiftLeft 1 m) 1) (Nat.lor x.mask (maskL args))) fun M => keepH M h1 fun h2 => K b x h2 n1
theorem gcS_ok {P : Program} {𝔅 : BigRep} {f : FuncId} {sp : Spec} (hs : SpecEnters P 𝔅 f sp) (m : Nat) : SpecEnters P 𝔅 f (gcS m sp) where
  enter := hs.enter
  calls := by
    intro C Q args h n K hB hk ρ w vs hv hH hbd
    refine (hs.calls C Q args h n _ hB hk ρ w vs hv hH hbd).mono ?_
    rintro e w' ⟨b, v, x, h', n', ρ', rfl, hx, hH', hle, hbd', hden⟩
    obtain ⟨ms, h1⟩ := masks_den hden
    obtain ⟨M, h2⟩ := marks_den h1
    rw [keepH_eq] at h2
    exact ⟨b, v, x, _, n', ρ', rfl, hx, hH'.filter _, hle, hbd', h2⟩
end SX
end Go.Proofs.YtnjaaagiindclaaGreatDoor

/-
  MallocZombies: what is to be computed for one class. The program's machine, as fresh makes it.
-/
namespace Go.Proofs.YtnjaaagiindclaaGreatDoor
open Go.RowKit Go.Deep
namespace SX
noncomputable def wtZ (k pages : Nat) : List (FuncId × Spec) := (103, spWant k pages) :: wtF
noncomputable def rZ (k pages : Nat) (f : FuncId) (fn : Func) : Spec := runP Tryz.prog (wtZ k pages) f fn
noncomputable def doZ (k pages : Nat) : Spec := gcS 124 <| rZ k pages 13 Tryz.f13
noncomputable def ofZ (k pages : Nat) : Spec := rZ k pages 14 Tryz.f14
noncomputable def infZ (k pages : Nat) : Spec := rZ k pages 17 Tryz.f17
noncomputable def ddZ (k pages : Nat) : Spec := rZ k pages 18 Tryz.f18
noncomputable def blZ (k pages : Nat) : Spec := rZ k pages 15 Tryz.f15
def shR : Sh := .a [some .u64, some .u64, some .i64]
def shB : Sh := .s none
def shI : Sh := .t [some .u64, some .i64, some .i64, some .i64, none, some .i64, some .i64, some .i64, none, none] (some .i64)
/-- are they these? -/
def nsB : List Nat → List Nat → Bool
  | [], l => (match l with | [] => true | _ :: _ => false)
  | a :: l, m => (match m with | b :: m => Nat.beq a b && nsB l m | [] => false)
theorem nsB_eq : ∀ {l m : List Nat}, nsB l m = true → l = m
  | [], m, h => by cases m with
    | nil => rfl
    | cons => cases h
  | a :: l, m, h => by cases m with
    | nil => cases h
    | cons b m =>
      have h' : (Nat.beq a b && nsB l m) = true := h
      rw [Bool.and_eq_true] at h'
      rw [Nat.eq_of_beq_eq_true h'.1, nsB_eq h'.2]
noncomputable def endT : Heap → Nat → Tree := fun h _ => okN (big0 h) .stop
/-- dead: nothing is answered -/
noncomputable def zT9 : List Nat → Heap → Nat → Tree := fun ns h n => okN (nsB ns [0, 0, 41]) (endT h n)
noncomputable def zT8 (dz : Spec) : List Nat → Heap → Nat → Tree := fun ns h n => okN (nsB ns [0, 0, 41]) (stepT dz (awL 7 0 1 .ns) shR zT9 h n)
noncomputable def zT7 (dz : Spec) : List Nat → Heap → Nat → Tree := fun ns h n => okN (nsB ns [1]) (stepT dz (callN 1) shR (zT8 dz) h n)
noncomputable def zT6 (dz dd : Spec) : List Nat → Heap → Nat → Tree := fun ns h n => okN (nsB ns [0, 0, 40]) (stepT dd [F0v] shB (zT7 dz) h n)
noncomputable def zT5 (dz dd : Spec) : Nat → Heap → Nat → Tree := fun k h n => okN (Nat.blt 0 k) (.both (stepT dz (awL 7 0 1048576 .ns) shR (zT6 dz dd) h n) (stepT dz (awL 6 0 0 .ns) shR (zT6 dz dd) h n))
noncomputable def zT4 (dz dd bl : Spec) : List Nat → Heap → Nat → Tree := fun ns h n => okN (nsB ns [0]) (stepL bl [F0v] (zT5 dz dd) h n)
noncomputable def zT3 (dz dd bl : Spec) : List Nat → Heap → Nat → Tree := fun ns h n => okN (Nat.beq (ns.getD 2 1) 0) (stepT dd [F0v] shB (zT4 dz dd bl) h n)
def freeOf (ns : List Nat) : Nat := ns.getD 0 0 + ns.getD 7 0 * ns.getD 5 0
noncomputable def zT2 (dz dd bl : Spec) : List Nat → Heap → Nat → Tree := fun ns h n => okN (Nat.beq (ns.getD 10 1) 0) (Bool.rec (motive := fun _ => Tree)
  (okN (Nat.blt (freeOf ns) 9223372036854775808) (stepV dz (awL 6 0 0) (freeOf ns) shR (zT3 dz dd bl) h n)) (endT h n) (Nat.beq (ns.getD 7 0) (ns.getD 6 0)))
noncomputable def zT1 (dz dd bl inf : Spec) : List Nat → Heap → Nat → Tree := fun ns => stepT inf [F0v, .l .i64 (ns.getD 0 0 : Int)] shI (zT2 dz dd bl)
/-- the blocks are given -/
noncomputable def zT0 (dz dd bl inf of : Spec) (u : Nat) : Heap → Nat → Tree := stepT of [F0v, .l .u64 (u : Int)] (.s (some .i64)) (zT1 dz dd bl inf)
/-- the last block; so many more may come -/
noncomputable def zD (dz dd bl inf of : Spec) : Nat → List Nat → Heap → Nat → Tree
  | 0, ns => fun h n => okN (Nat.beq (ns.getD 2 1) 0) (zT0 dz dd bl inf of (ns.getD 0 0) h n)
  | f + 1, ns => fun h n => okN (Nat.beq (ns.getD 2 1) 0) (.both (zT0 dz dd bl inf of (ns.getD 0 0) h n) (stepT dz (callN 1) shR (zD dz dd bl inf of f) h n))
/-- a block; so many more come ahead of the last one -/
noncomputable def zE (dz dd bl inf of : Spec) (c : Nat) : Nat → List Nat → Heap → Nat → Tree
  | 0, ns => zD dz dd bl inf of c ns
  | a + 1, ns => fun h n => okN (Nat.beq (ns.getD 2 1) 0) (stepT dz (callN 1) shR (zE dz dd bl inf of c a) h n)
noncomputable def zAll (k pages a c : Nat) : Tree := stepT (doZ k pages) (callN 1) shR (zE (doZ k pages) (ddZ k pages) (blZ k pages) (infZ k pages) (ofZ k pages) c a) F0h F0n
end SX
end Go.Proofs.YtnjaaagiindclaaGreatDoor

/-
  Operations that do not come up, in a region that stays still. No program in sight.
-/
namespace Go.Proofs.YtnjaaagiindclaaGreatDoor
open Go.RowKit Go.Deep
theorem still_skip {P : Program} {ops : Array Oper} {w : World} {Q : Act → Prop} {o : Oper} {rest : List Oper} {a : Act} {i d : Nat} {b : Bool} (hg : o.guard = some (i, b)) (hd : o.dst = some d) (hy : (yielded ops a.tmps i == some b) = false) (hu : a.tmps[d]? = some undef) (h : wpStill P ops w Q rest a) : wpStill P ops w Q (o :: rest) a := by
  have e : a.put o.dst undef = a := by
    have e1 : a.tmps.setIfInBounds d undef = a.tmps := by
      refine Array.ext_getElem? fun k => ?_
      rw [Array.getElem?_setIfInBounds]
      split
      next hk =>
        subst hk
        split
        · exact hu.symm
        next hn => rw [Array.getElem?_eq_none (by omega)] at hu; cases hu
      · rfl
    rw [hd]
    show ({ a with tmps := a.tmps.setIfInBounds d undef } : Act) = a
    rw [e1]
  unfold wpStill
  rw [if_neg, e]
  · exact h
  · unfold Region.wanted
    rw [hg]
    simp only [hy, Bool.false_eq_true, not_false_eq_true]
def isUndef : Option Value → Bool
  | some v => (match v with | .tuple a => Nat.beq a.size 0 | _ => false)
  | none => false
theorem isUndef_eq {x : Option Value} (h : isUndef x = true) : x = some undef := by
  unfold isUndef at h
  split at h
  next v =>
    split at h
    next a =>
      have : a.size = 0 := Nat.eq_of_beq_eq_true h
      rw [Array.eq_empty_of_size_eq_zero this]; rfl
    · cases h
  · cases h
def skipB (ops : Array Oper) (ts : Array Value) (o : Oper) : Bool := match o.guard with
  | some g => (match o.dst with
    | some d => !(yielded ops ts g.1 == some g.2) && isUndef ts[d]?
    | none => false)
  | none => false
def skipsB (ops : Array Oper) (ts : Array Value) : Nat → List Oper → Bool
  | 0, _ => true
  | n + 1, o :: l => skipB ops ts o && skipsB ops ts n l
  | _ + 1, [] => false
theorem still_skips {P : Program} {ops : Array Oper} {w : World} {Q : Act → Prop} : ∀ (n : Nat) (l : List Oper) (a : Act), skipsB ops a.tmps n l = true → wpStill P ops w Q (l.drop n) a → wpStill P ops w Q l a
  | 0, l, a, _, h => h
  | n + 1, [], a, hs, _ => by cases hs
  | n + 1, o :: l, a, hs, h => by
    have hs' : (skipB ops a.tmps o && skipsB ops a.tmps n l) = true := hs
    rw [Bool.and_eq_true] at hs'
    have h1 := hs'.1
    unfold skipB at h1
    split at h1
    next g hg =>
      split at h1
      next d hd =>
        rw [Bool.and_eq_true, Bool.not_eq_true'] at h1
        exact still_skip (i := g.1) (b := g.2) hg hd h1.1 (isUndef_eq h1.2) (still_skips n l a hs'.2 h)
      · cases h1
    · cases h1
/-- a move, and then operations that do not come up -/
theorem still_moved {P : Program} {ops : Array Oper} {w : World} {Q : Act → Prop} {o : Oper} {rest : List Oper} {a : Act} {x : Operand} (n : Nat) {v : Value} (hg : o.guard = none) (ho : o.op = .move x) (hv : a.eval x = v)
    (hs : skipsB ops (a.put o.dst v).tmps n rest = true) (h : wpStill P ops w Q (rest.drop n) (a.put o.dst v)) : wpStill P ops w Q (o :: rest) a := by
  have e : (execOp a.eval o).run P w = .ok (.value v) w := by
    unfold execOp
    rw [ho, ← hv]
    rfl
  have hn := still_skips n rest (a.put o.dst v) hs h
  unfold wpStill
  rw [if_pos (by unfold Region.wanted; rw [hg])]
  unfold Oper.still
  rw [e, Oper.stillUpon_value]
  exact hn
end Go.Proofs.YtnjaaagiindclaaGreatDoor
