/-
  Part 9 of what the statement leans on: SxF, Sx15, SxX, SxS, WBase, SxW, Tz, WTab, Search, Kind, Place, Count.
-/
import Derived.Test.YtnjaaagiindclaaGreatDoorPk1
import Derived.Test.YtnjaaagiindclaaGreatDoorPk7
import Derived.Test.YtnjaaagiindclaaGreatDoorPk8
import Derived.Laws.Externs
import Derived.Shelf.Spec.TrailingZeros
import Derived.Lib.LaidTab
import Derived.Deep.LoopGhost
import Derived.ChangeKeysEq
import Derived.BigQuiet
import Derived.Deep.QuietTactic
import Derived.BigRegion
import Derived.Deep.CutBlock
import Derived.Deep.DeepCutAuto
/-
  SX: the same trees, got faster: what hangs on the program alone is got once. No program in sight.
-/
namespace Go.Proofs.YtnjaaagiindclaaGreatDoor
open Go.RowKit Go.Deep
namespace SX

/-! rows of operations -/
noncomputable def goF (go : Bool) (f : OpF) (o : Oper) (E : Env) (st : St) (k : St → Tree) (kp : SV → St → Tree) : Tree := Bool.rec (motive := fun _ => Tree) (k (skipO o st)) (f.f E st k kp) go
theorem goF_eq (go : Bool) (o : Oper) (E : Env) (st : St) (k : St → Tree) (kp : SV → St → Tree) : goF go (opF o) o E st k kp = exO E go o st k kp := by
  cases go with
  | false => rfl
  | true => exact opF_eq o E st k kp
noncomputable def gdS (s : Nat) (want : Bool) (f : OpF) (o : Oper) (E : Env) (st : St) (v : SV) (k : St → Tree) (kp : SV → St → Tree) : Tree := match v with
  | .tt => goF want f o E st k kp
  | .ff => goF (!want) f o E st k kp
  | .none_ => k (skipO o st)
  | .b c => .split c (goF want f o E { st with tm := sset st.tm s .tt } k kp) (goF (!want) f o E { st with tm := sset st.tm s .ff } k kp)
  | _ => .fail 231
noncomputable def gdF (ops : List Oper) (o : Oper) : OpF := match o.guard with
  | none => opF o
  | some (j, want) => (match gslot ops j with
    | none => ⟨fun _ _ _ _ => .fail 230⟩
    | some s => ⟨fun E st k kp => gdS s want (opF o) o E st ((acc s).g st.tm) k kp⟩)
noncomputable def chF (ops : List Oper) (l : List Oper) : OpF :=
  List.rec (motive := fun _ => OpF) ⟨fun _ st k _ => k st⟩ (fun o _ ih => ⟨fun E st k kp => (gdF ops o).f E st (fun st => ih.f E st k kp) kp⟩) l
theorem chF_eq (ops : List Oper) (E : Env) (k : St → Tree) (kp : SV → St → Tree) : ∀ (l : List Oper) (st : St), (chF ops l).f E st k kp = exL E ops l st k kp
  | [], st => rfl
  | o :: l, st => by
    show (gdF ops o).f E st (fun st => (chF ops l).f E st k kp) kp = _
    have e : (fun st => (chF ops l).f E st k kp) = fun st => exL E ops l st k kp := funext fun st => chF_eq ops E k kp l st
    rw [e]
    unfold gdF
    simp only [exL]
    split
    next h => rw [h]; exact opF_eq _ _ _ _ _
    next j want h =>
      rw [h]
      simp only
      cases gslot ops j with
      | none => rfl
      | some s =>
        simp only [gdS, goF_eq]
        rfl

/-! code -/
structure CodeF where
  f : Env → Nat → Kont → St → Tree
noncomputable def condF (v : SV) (a b : Tree) : Tree := match v with
  | .tt => a
  | .ff => b
  | .b x => .split x a b
  | _ => .fail 240
noncomputable def loopF (ws : List Nat) (body : CodeF) (E : Env) (lb : Nat) (K : Kont) (st : St) : Tree := match E.inv lb with
    | some Iv => noD st (if subN ws Iv.sl then
        .need (Enter Iv st) (.all Iv.p fun x => body.f E lb (kn (fun st' => noD st' (.need (Back Iv st x st') .stop)) K) (headS Iv ws st x))
      else .fail 241)
    | none => rounds (fun K st => body.f E lb K st) K E.fuel st
noncomputable def codeF (c : Code) : CodeF :=
  Code.rec (motive := fun _ => CodeF)
    ⟨fun _ _ K st => K .n st⟩
    (fun _ ops dr => Bool.rec (motive := fun _ => CodeF) ⟨fun E _ K st => (chF ops.toList ops.toList).f E st (K .n) (fun v => K (.p v))⟩ ⟨fun E _ K st => exR E ops.toList st (K .n)⟩ dr)
    (fun _ _ ia ib => ⟨fun E lb K st => ia.f E lb (kn (fun st => ib.f E lb K st) K) st⟩)
    (fun c _ _ ia ib => ⟨fun E lb K st => condF ((srcF c).f st.tm) (ia.f E lb K st) (ib.f E lb K st)⟩)
    (fun i _ ic => ⟨fun E _ K st => ic.f E i (kb i K) st⟩)
    (fun c ic => ⟨fun E lb K st => loopF (wr c) ic E lb K st⟩)
    (fun _ _ _ _ _ _ => ⟨fun _ _ _ _ => .fail 244⟩)
    (fun i => ⟨fun _ _ K st => K (.x i) st⟩)
    (fun _ ic => ⟨fun E lb K st => ic.f E lb K st⟩)
    (fun _ => ⟨fun _ _ K st => K .n st⟩)
    (fun _ => ⟨fun _ _ _ _ => .fail 244⟩)
    ⟨fun _ _ K st => K .r st⟩
    (fun _ => ⟨fun _ _ _ _ => .fail 244⟩) c
theorem codeF_eq (E : Env) : ∀ (c : Code) (lb : Nat) (K : Kont) (st : St), (codeF c).f E lb K st = exC E c lb K st := by
  intro c
  induction c with
  | seq a b iha ihb =>
    intro lb K st
    show (codeF a).f E lb (kn (fun st => (codeF b).f E lb K st) K) st = _
    rw [iha]
    simp only [exC]
    rw [show (fun st => (codeF b).f E lb K st) = fun st => exC E b lb K st from funext fun st => ihb lb K st]
  | cond c a b iha ihb =>
    intro lb K st
    show condF ((srcF c).f st.tm) ((codeF a).f E lb K st) ((codeF b).f E lb K st) = _
    rw [iha, ihb, srcF_eq]
    rfl
  | block i c ih =>
    intro lb K st
    show (codeF c).f E i (kb i K) st = _
    rw [ih]; rfl
  | scope c ih =>
    intro lb K st
    show (codeF c).f E lb K st = _
    rw [ih]; rfl
  | loop c ih =>
    intro lb K st
    show loopF (wr c) (codeF c) E lb K st = _
    unfold loopF
    simp only [exC]
    rw [show (codeF c).f E lb = fun K st => exC E c lb K st from funext fun K => funext fun st => ih lb K st]
    all_goals (cases E.inv lb <;> rfl)
  | region i ops dr =>
    intro lb K st
    cases dr with
    | true => rfl
    | false =>
      show (chF ops.toList ops.toList).f E st (K .n) (fun v => K (.p v)) = _
      rw [chF_eq]; rfl
  | _ => intros; rfl

/-! functions -/
noncomputable def fnF (E : Env) (ds : FuncId → Option DSpec) (fn : Func) (c : Code) : Spec := fun args h n K => (codeF c).f E 0 (finK E.ty ds fn K) ⟨fr0 fn args, h, n, []⟩
theorem fnF_eq (E : Env) (ds : FuncId → Option DSpec) (fn : Func) (c : Code) : fnF E ds fn c = fnT E ds fn c := by
  funext args h n K
  exact codeF_eq E c 0 _ _
end SX
end Go.Proofs.YtnjaaagiindclaaGreatDoor

/-
  SX: contracts from trees; calls put in line. No program in sight.
-/
namespace Go.Proofs.YtnjaaagiindclaaGreatDoor
open Go.RowKit Go.Deep
namespace SX

/-- what is known of a number, a truth or a string, forgotten -/
def soft : SV → SV
  | .l k n => .i k n
  | .tt => .b true
  | .ff => .b false
  | .t l => .s (bytesOf l)
  | v => v
theorem soft_rel {ρ : Ren} {x : SV} {v : Value} (h : x.Rel ρ v) : (soft x).Rel ρ v := by
  cases x <;> simp only [soft, SV.Rel] at h ⊢ <;> exact h
theorem softL_rel {ρ : Ren} : ∀ {l : List SV} {vs : List Value}, RelL ρ l vs → RelL ρ (l.map soft) vs
  | [], _, h => h
  | x :: l, vs, h => by
    simp only [RelL] at h
    obtain ⟨v, q, rfl, h1, h2⟩ := h
    exact .cons (soft_rel h1) (softL_rel h2)
noncomputable def Spec.soft (sp : Spec) : Spec := fun args h n K => sp (args.map SX.soft) h n K
theorem SpecOk.soft {P : Program} {𝔅 : BigRep} {f : FuncId} {sp : Spec} (h : SpecOk P 𝔅 f sp) : SpecOk P 𝔅 f sp.soft :=
  Or.imp (fun h => ⟨h.enter, fun C Q _ hp n K hB hk ρ w vs hv hH hbd => h.calls C Q _ hp n K hB hk ρ w vs (softL_rel hv) hH hbd⟩) (fun h Q _ hp n K hk ρ w vs hv => h Q _ hp n K hk ρ w vs (softL_rel hv)) h

/-- contracts in a list -/
def specAt : List (FuncId × Spec) → FuncId → Option Spec
  | [], _ => none
  | x :: l, f => if Nat.beq x.1 f then some x.2 else specAt l f
theorem specAt_ok {P : Program} {𝔅 : BigRep} : ∀ {l : List (FuncId × Spec)}, (∀ x ∈ l, SpecOk P 𝔅 x.1 x.2) → ∀ f sp, specAt l f = some sp → SpecOk P 𝔅 f sp
  | [], _, _, _, h => by cases h
  | x :: l, hl, f, sp, h => by
    simp only [specAt] at h
    split at h
    next e =>
      have := Nat.eq_of_beq_eq_true e
      simp only [Option.some.injEq] at h
      subst this h
      exact hl x (by simp)
    next => exact specAt_ok (fun y hy => hl y (by simp [hy])) f sp h
def bodyOf (f : Func) : Code := match f.body with | some c => c | none => .skip

theorem spec_fnF {P : Program} {E : Env} {𝔅 : BigRep} (hE : EnvOk P 𝔅 E) {ds : FuncId → Option DSpec} (hds : ∀ f sp, ds f = some sp → DSpecOk P 𝔅 f sp) {f : FuncId} {fn : Func} {c : Code} (hf : P.funcs[f]? = some fn) (hb : fn.body = some c) (hname : (fn.name == "runtime.NumGoroutine") = false) :
    SpecOk P 𝔅 f (fnF E ds fn c) := by rw [fnF_eq]; exact spec_fn hE hds hf hb hname

/-! calls in line -/
/-- how a function is gone through -/
structure Cfg where
  inv : Nat → Option Inv := fun _ => none
  wr : Bool := false
  fuel : Nat := 0
/-- what all is gone through with: types, functions, contracts, ways -/
structure All where
  ty : TypeId → Option TI
  fn : FuncId → Option Func
  tbl : FuncId → Option Spec
  cfg : FuncId → Cfg
noncomputable def All.env (A : All) (sp : FuncId → Option Spec) (c : Cfg) : Env := { ty := A.ty, rk := fun _ => none, spec := sp, inv := c.inv, wr := c.wr, fuel := c.fuel }
noncomputable def All.dsp (A : All) (sp : FuncId → Option Spec) (f : FuncId) : Option DSpec := match A.fn f with
  | some fn => (match fn.body with
    | some c => some (fnD (A.env sp (A.cfg f)) fn c)
    | none => none)
  | none => none
noncomputable def All.inl (A : All) : Nat → FuncId → Option Spec :=
  Nat.rec (motive := fun _ => FuncId → Option Spec) A.tbl fun _ ih f => match A.tbl f with
    | some sp => some sp
    | none => (match A.fn f with
      | some fn => (match fn.body with
        | some c => some (fnF (A.env ih (A.cfg f)) (A.dsp ih) fn c)
        | none => none)
      | none => none)
structure AllOk (P : Program) (𝔅 : BigRep) (A : All) : Prop where
  ty : ∀ t i, A.ty t = some i → tiOf P t = some i
  fn : ∀ f fn, A.fn f = some fn → P.funcs[f]? = some fn ∧ (fn.name == "runtime.NumGoroutine") = false
  tbl : ∀ f sp, A.tbl f = some sp → SpecOk P 𝔅 f sp
  mx : P.follows .mixedOrders = true
theorem AllOk.env {P : Program} {𝔅 : BigRep} {A : All} (h : AllOk P 𝔅 A) {sp : FuncId → Option Spec} (hs : ∀ f s, sp f = some s → SpecOk P 𝔅 f s) (c : Cfg) : EnvOk P 𝔅 (A.env sp c) := ⟨h.ty, hs, h.mx⟩
theorem AllOk.dsp {P : Program} {𝔅 : BigRep} {A : All} (h : AllOk P 𝔅 A) {sp : FuncId → Option Spec} (hs : ∀ f s, sp f = some s → SpecOk P 𝔅 f s) : ∀ f d, A.dsp sp f = some d → DSpecOk P 𝔅 f d := by
  intro f d hd
  unfold All.dsp at hd
  split at hd
  next fn hf =>
    split at hd
    next c hc =>
      simp only [Option.some.injEq] at hd
      subst hd
      exact dspec_fn (h.env hs _) (h.fn _ _ hf).1 hc (h.fn _ _ hf).2
    · cases hd
  · cases hd
theorem AllOk.inl {P : Program} {𝔅 : BigRep} {A : All} (h : AllOk P 𝔅 A) : ∀ n f s, A.inl n f = some s → SpecOk P 𝔅 f s
  | 0, f, s, hs => h.tbl f s hs
  | n + 1, f, s, hs => by
    have e : A.inl (n + 1) f = (match A.tbl f with
      | some sp => some sp
      | none => (match A.fn f with
        | some fn => (match fn.body with
          | some c => some (fnF (A.env (A.inl n) (A.cfg f)) (A.dsp (A.inl n)) fn c)
          | none => none)
        | none => none)) := rfl
    rw [e] at hs
    split at hs
    next sp hsp =>
      simp only [Option.some.injEq] at hs
      subst hs
      exact h.tbl _ _ hsp
    next =>
      split at hs
      next fn hf =>
        split at hs
        next c hc =>
          simp only [Option.some.injEq] at hs
          subst hs
          exact spec_fnF (h.env (h.inl n) _) (h.dsp (h.inl n)) (h.fn _ _ hf).1 hc (h.fn _ _ hf).2
        · cases hs
      · cases hs
/-- a function's own tree -/
noncomputable def All.tree (A : All) (n : Nat) (f : FuncId) (fn : Func) (c : Code) : Spec := fnF (A.env (A.inl n) (A.cfg f)) (A.dsp (A.inl n)) fn c
theorem AllOk.tree {P : Program} {𝔅 : BigRep} {A : All} (h : AllOk P 𝔅 A) {n : Nat} {f : FuncId} {fn : Func} {c : Code} (hf : A.fn f = some fn) (hc : fn.body = some c) : SpecOk P 𝔅 f (A.tree n f fn c) :=
  spec_fnF (h.env (h.inl n) _) (h.dsp (h.inl n)) (h.fn _ _ hf).1 hc (h.fn _ _ hf).2

/-! trees in which all is known -/
/-- a tree without needs, whose leaves pass -/
noncomputable def Tree.sure (ok : Ex → St → Bool) : Tree → Bool
  | .done e st => ok e st
  | .both a b => a.sure ok && b.sure ok
  | .stop => true
  | _ => false
theorem Tree.sure_den {ok : Ex → St → Bool} {Q : Ex → St → Prop} (h : ∀ e st, ok e st = true → Q e st) : ∀ {T : Tree}, T.sure ok = true → T.den Q
  | .done e st, hs => h e st hs
  | .both a b, hs => by
    simp only [Tree.sure, Bool.and_eq_true] at hs
    exact ⟨sure_den h hs.1, sure_den h hs.2⟩
  | .stop, _ => trivial
  | .need _ _, hs => by cases hs
  | .split _ _ _, hs => by cases hs
  | .all _ _, hs => by cases hs
  | .fail _, hs => by cases hs
end SX
end Go.Proofs.YtnjaaagiindclaaGreatDoor

/-
  SX: functions that the model stands in for.
-/
namespace Go.Proofs.YtnjaaagiindclaaGreatDoor
open Go.RowKit Go.Deep
namespace SX

def spAdd : Spec := fun args h n K => match args with
  | [x, y, c] => (match x with
    | .l kx a => (match y with
      | .l ky b => (match c with
        | .l kc d => (match a with
          | .ofNat a => (match b with
            | .ofNat b => (match d with
              | .ofNat d => if isK kx .u64 && isK ky .u64 && isK kc .u64 && Nat.ble d 1 then K true (.tup [.l .u64 (.ofNat (Nat.mod (Nat.add (Nat.add a b) d) 18446744073709551616)), .l .u64 (.ofNat (Nat.div (Nat.add (Nat.add a b) d) 18446744073709551616))]) h n else .fail 600
              | _ => .fail 601)
            | _ => .fail 601)
          | _ => .fail 601)
        | _ => .fail 602)
      | _ => .fail 602)
    | _ => .fail 602)
  | _ => .fail 603
def spFrom : Spec := fun args h n K => match args with
  | [x] => (match x with
    | .l k a => (match a with
      | .ofNat a => if isK k .u64 then K true (.f .f64 a) h n else .fail 604
      | _ => .fail 605)
    | _ => .fail 606)
  | _ => .fail 607
def spBits : Spec := fun args h n K => match args with
  | [x] => (match x with
    | .f k a => if sameF k .f64 then K true (.l .u64 (.ofNat a)) h n else .fail 608
    | _ => .fail 609)
  | _ => .fail 610

theorem RelL.one {ρ : Ren} {x : SV} {vs : List Value} (h : RelL ρ [x] vs) : ∃ v, vs = [v] ∧ x.Rel ρ v := by
  simp only [RelL] at h
  obtain ⟨v, r, rfl, h, rfl⟩ := h
  exact ⟨v, rfl, h⟩
theorem RelL.three {ρ : Ren} {x y z : SV} {vs : List Value} (h : RelL ρ [x, y, z] vs) : ∃ a b c, vs = [a, b, c] ∧ x.Rel ρ a ∧ y.Rel ρ b ∧ z.Rel ρ c := by
  simp only [RelL] at h
  obtain ⟨a, r, rfl, h1, b, r', rfl, h2, c, r'', rfl, h3, rfl⟩ := h
  exact ⟨a, b, c, rfl, h1, h2, h3⟩
section
variable {P : Program} {𝔅 : BigRep} {f : FuncId} {fn : Func}
theorem spAdd_ok (hf : P.funcs[f]? = some fn) (hname : (fn.name == "runtime.NumGoroutine") = false) (hb : fn.body.isNone = true) (hn : Extern.findNext fn = none) (he : Extern.find fn = some add64Entry) : SpecOk P 𝔅 f spAdd := by
  refine .inr fun Q args h n K hk ρ w vs hv => ?_
  unfold spAdd at hk
  split at hk
  next x y c =>
    split at hk
    next kx a =>
      split at hk
      next ky b =>
        split at hk
        next kc d =>
          split at hk
          next a =>
            split at hk
            next b =>
              split at hk
              next d =>
                split at hk
                next hc =>
                  simp only [Bool.and_eq_true] at hc
                  obtain ⟨⟨⟨h1, h2⟩, h3⟩, h4⟩ := hc
                  have := isK_eq h1
                  have := isK_eq h2
                  have := isK_eq h3
                  have h4 := Nat.le_of_ble_eq_true h4
                  subst kx ky kc
                  obtain ⟨p, q, r, hvs, hp, hq, hr⟩ := hv.three
                  simp only [SV.Rel] at hp hq hr
                  have hvs' : vs = #[.int .u64 (Int.ofNat a), .int .u64 (Int.ofNat b), .int .u64 (Int.ofNat d)] := by
                    rw [← Array.toList_inj, hvs, hp, hq, hr]
                  refine ⟨.tuple #[.int .u64 (Int.ofNat ((a + b + d) % 18446744073709551616)), .int .u64 (Int.ofNat ((a + b + d) / 18446744073709551616))], _, ?_, ?_, hk⟩
                  · rw [hvs', run_callFunc_extern hf hname hb hn he]
                    have := run_add64 (P := P) (Int.ofNat a) (Int.ofNat b) (Int.ofNat d) (by simp) (by simp) (by simp) (by simp only [Int.ofNat_eq_natCast]; omega) w
                    rw [this]
                    simp only [Result.andThen, Int.ofNat_eq_natCast]
                    congr 5 <;> omega
                  · simp only [SV.Rel]
                    exact ⟨_, rfl, .cons (by simp only [SV.Rel]; rfl) (.cons (by simp only [SV.Rel]; rfl) .nil)⟩
                · exact hk.elim
              · exact hk.elim
            · exact hk.elim
          · exact hk.elim
        · exact hk.elim
      · exact hk.elim
    · exact hk.elim
  · exact hk.elim
theorem spFrom_ok (hf : P.funcs[f]? = some fn) (hname : (fn.name == "runtime.NumGoroutine") = false) (hb : fn.body.isNone = true) (hn : Extern.findNext fn = none) (he : Extern.find fn = some Extern.MathFloatBits.float64frombits) : SpecOk P 𝔅 f spFrom := by
  refine .inr fun Q args h n K hk ρ w vs hv => ?_
  unfold spFrom at hk
  split at hk
  next x =>
    split at hk
    next k a =>
      split at hk
      next a =>
        split at hk
        next hc =>
          have := isK_eq hc
          subst k
          obtain ⟨p, hvs, hp⟩ := hv.one
          simp only [SV.Rel] at hp
          have hvs' : vs = #[.int .u64 (Int.ofNat a)] := by rw [← Array.toList_inj, hvs, hp]
          refine ⟨.float .f64 a, _, ?_, ?_, hk⟩
          · rw [hvs', run_callFunc_extern hf hname hb hn he]
            rw [show (Extern.MathFloatBits.float64frombits #[.int .u64 (Int.ofNat a)]).run P w = .ok (.float .f64 a) w from rfl]; rfl
          · simp only [SV.Rel]
        · exact hk.elim
      · exact hk.elim
    · exact hk.elim
  · exact hk.elim
theorem spBits_ok (hf : P.funcs[f]? = some fn) (hname : (fn.name == "runtime.NumGoroutine") = false) (hb : fn.body.isNone = true) (hn : Extern.findNext fn = none) (he : Extern.find fn = some Extern.MathFloatBits.float64bits) : SpecOk P 𝔅 f spBits := by
  refine .inr fun Q args h n K hk ρ w vs hv => ?_
  unfold spBits at hk
  split at hk
  next x =>
    split at hk
    next k a =>
      split at hk
      next hc =>
        have := sameF_eq hc
        subst k
        obtain ⟨p, hvs, hp⟩ := hv.one
        simp only [SV.Rel] at hp
        have hvs' : vs = #[.float .f64 a] := by rw [← Array.toList_inj, hvs, hp]
        refine ⟨.int .u64 (Int.ofNat a), _, ?_, ?_, hk⟩
        · rw [hvs', run_callFunc_extern hf hname hb hn he]
          rw [show (Extern.MathFloatBits.float64bits #[.float .f64 a]).run P w = .ok (.int .u64 (Int.ofNat a)) w from rfl]; rfl
        · simp only [SV.Rel]
      · exact hk.elim
    · exact hk.elim
  · exact hk.elim
end
end SX
end Go.Proofs.YtnjaaagiindclaaGreatDoor

/-
  SX: a call that needs nothing of memory, run once, holds in every memory: names are moved. No program in sight.
-/
namespace Go.Proofs.YtnjaaagiindclaaGreatDoor
open Go.RowKit Go.Deep
namespace SX

def Cap.sh (k : Nat) : Cap → Cap
  | .o i m => .o (Nat.add i k) m
  | .c n => .c n
  | .v n => .v n
  | .zr => .zr
mutual
def SV.sh (k : Nat) : SV → SV
  | .p b o => .p (Nat.add b k) o
  | .sl lit b sz f n c => .sl lit (Nat.add b k) sz f n (c.sh k)
  | .m b => .m (Nat.add b k)
  | .nu b => .nu (Nat.add b k)
  | .fn f cap => .fn f (shL k cap)
  | .ifc t v => .ifc t (SV.sh k v)
  | .agg l => .agg (shL k l)
  | .tup l => .tup (shL k l)
  | x => x
def shL (k : Nat) : List SV → List SV
  | [] => []
  | x :: l => SV.sh k x :: shL k l
end
theorem Cap.sh_is {ρ ρ' : Ren} {k : Nat} (h : ∀ b, ρ' (b + k) = ρ b) {c : Cap} {z : Nat} (r : c.Is ρ z) : (c.sh k).Is ρ' z := by
  cases c with
  | c n => exact r
  | v n => exact r
  | o i m => obtain ⟨y, e, r⟩ := r; exact ⟨y, (h i).trans e, r⟩
  | zr => exact r
theorem Cap.sh_zz {k : Nat} {c : Cap} (h : (c.sh k).zz) : c.zz := by cases c <;> exact h
theorem Cap.sh_has {k : Nat} {c : Cap} (h : (c.sh k).hasB) : c.hasB := by cases c <;> exact h
mutual
theorem SV.sh_rel {ρ ρ' : Ren} {k : Nat} (h : ∀ b, ρ' (b + k) = ρ b) : ∀ (x : SV) (v : Value), x.Rel ρ v → (x.sh k).Rel ρ' v
  | .tt, _, r | .ff, _, r | .b _, _, r | .l _ _, _, r | .i _ _, _, r | .f _ _, _, r | .s _, _, r | .t _, _, r | .rp _ _, _, r | .np, _, r | .ns, _, r | .nm, _, r | .nf, _, r | .ni, _, r | .v _, _, r | .none_, _, r => by
    simp only [SV.sh, SV.Rel] at r ⊢; exact r
  | .p b o, v, r => by
    simp only [SV.sh, SV.Rel] at r ⊢
    obtain ⟨g, e, r⟩ := r
    exact ⟨g, (h b).trans e, r⟩
  | .sl lit b sz frm len cap, v, r => by
    simp only [SV.sh, SV.Rel] at r ⊢
    obtain ⟨a, c, e, hi, hl, r⟩ := r
    exact ⟨a, c, e, Cap.sh_is h hi, hl, fun hc => by obtain ⟨g, e, r⟩ := r (Cap.sh_has hc); exact ⟨g, (h b).trans e, fun hz => r (hz.imp id Cap.sh_zz)⟩⟩
  | .m b, v, r => by
    simp only [SV.sh, SV.Rel] at r ⊢
    obtain ⟨g, e, r⟩ := r
    exact ⟨g, (h b).trans e, r⟩
  | .nu b, v, r => by
    simp only [SV.sh, SV.Rel] at r ⊢
    obtain ⟨g, e, r⟩ := r
    exact ⟨g, (h b).trans e, r⟩
  | .fn f cap, v, r => by
    simp only [SV.sh, SV.Rel] at r ⊢
    obtain ⟨cs, e, r⟩ := r
    exact ⟨cs, e, shL_rel h cap cs.toList r⟩
  | .ifc t x, v, r => by
    simp only [SV.sh, SV.Rel] at r ⊢
    obtain ⟨y, e, r⟩ := r
    exact ⟨y, e, SV.sh_rel h x y r⟩
  | .agg l, v, r => by
    simp only [SV.sh, SV.Rel] at r ⊢
    obtain ⟨cs, e, r⟩ := r
    exact ⟨cs, e, shL_rel h l cs.toList r⟩
  | .tup l, v, r => by
    simp only [SV.sh, SV.Rel] at r ⊢
    obtain ⟨cs, e, r⟩ := r
    exact ⟨cs, e, shL_rel h l cs.toList r⟩
  | .junk, _, _ => by simp only [SV.sh, SV.Rel]
theorem shL_rel {ρ ρ' : Ren} {k : Nat} (h : ∀ b, ρ' (b + k) = ρ b) : ∀ (l : List SV) (vs : List Value), RelL ρ l vs → RelL ρ' (shL k l) vs
  | [], vs, r => by simp only [shL, RelL] at r ⊢; exact r
  | x :: l, vs, r => by
    simp only [shL, RelL] at r ⊢
    obtain ⟨v, q, e, r1, r2⟩ := r
    exact ⟨v, q, e, SV.sh_rel h x v r1, shL_rel h l q r2⟩
end
def shE {κ : Type} (k : Nat) : List (κ × SV) → List (κ × SV)
  | [] => []
  | e :: l => (e.1, e.2.sh k) :: shE k l
theorem MR.sh {κ : Type} {ρ ρ' : Ren} {k : Nat} (h : ∀ b, ρ' (b + k) = ρ b) : ∀ {es : List (κ × SV)} {m : List (κ × Value)}, MR ρ es m → MR ρ' (shE k es) m
  | [], _, r => r
  | _ :: _, _, r => by
    obtain ⟨v, q, e, r1, r2⟩ := r
    exact ⟨v, q, e, SV.sh_rel h _ _ r1, MR.sh h r2⟩
def SObj.sh (k : Nat) : SObj → SObj
  | .cells t cs => .cells t (shL k cs)
  | .vec t sz cs cap => .vec t sz (shL k cs) (cap.sh k)
  | .row t rk xs cap => .row t rk xs cap
  | .mp kk es => .mp kk (shE k es)
  | .it bm => .it (Nat.add bm k)
  | .big m => .big m
  | .gone => .gone
theorem enc_sh (k : RK) (x : k.T) (n : Nat) : shL n (k.enc x) = k.enc x := by cases k <;> rfl
theorem shL_append (k : Nat) (a b : List SV) : shL k (a ++ b) = shL k a ++ shL k b := by
  induction a with
  | nil => simp [shL]
  | cons x a ih => simp [shL, ih]
theorem encs_sh (k : RK) (xs : List k.T) (n : Nat) : shL n (xs.flatMap k.enc) = xs.flatMap k.enc := by
  induction xs with
  | nil => rfl
  | cons x xs ih => rw [List.flatMap_cons, shL_append, enc_sh, ih]
theorem shL_len (k : Nat) (l : List SV) : (shL k l).length = l.length := by
  induction l with
  | nil => rfl
  | cons x l ih => simp [shL, ih]
/-- no object out of a model -/
def plainO : SObj → Bool
  | .big _ => false
  | _ => true
theorem Rep.sh {𝔅 : BigRep} {ρ ρ' : Ren} {k b : Nat} (h : ∀ b, ρ' (b + k) = ρ b) {o : SObj} {G : Grp} (r : Rep 𝔅 ρ b o G) : Rep 𝔅 ρ' (b + k) (o.sh k) G := by
  cases o with
  | cells t cs =>
    obtain ⟨g, c, e, e2, r⟩ := r
    exact ⟨g, c, (h b).trans e, e2, shL_rel h _ _ r⟩
  | vec t sz cs cap =>
    obtain ⟨z, hi, h1, h2, r⟩ := r
    exact ⟨z, Cap.sh_is h hi, by rw [shL_len]; exact h1, h2, r.imp id (fun ⟨g, c, e, e2, h3, h4⟩ => ⟨g, c, (h b).trans e, e2, h3, by rw [shL_len]; exact shL_rel h _ _ h4⟩)⟩
  | row t rk xs cap =>
    obtain ⟨h1, h2, r⟩ := r
    exact ⟨h1, h2, r.imp id (fun ⟨g, c, e, e2, h3, h4⟩ => ⟨g, c, (h b).trans e, e2, h3, by rw [← encs_sh rk xs k]; exact shL_rel h _ _ h4⟩)⟩
  | mp kk es =>
    obtain ⟨g, m, e, r, hm⟩ := r
    exact ⟨g, m, (h b).trans e, r.sh h, hm⟩
  | it bm =>
    obtain ⟨gi, gm, x, y, z, e1, e2, r⟩ := r
    exact ⟨gi, gm, x, y, z, (h b).trans e1, (h bm).trans e2, r⟩
  | big m => obtain ⟨g, e, r⟩ := r; exact ⟨g, (h b).trans e, r⟩
  | gone => exact r
def shH (k : Nat) : Heap → Heap → Heap
  | [], t => t
  | x :: h, t => (Nat.add x.1 k, x.2.sh k) :: shH k h t
theorem Reps.sh {𝔅 : BigRep} {ρ ρ0 ρ' : Ren} {k : Nat} (h : ∀ b, ρ' (b + k) = ρ b) (hl : ρ0.le ρ') : ∀ {hp t : Heap} {Gs Hs : List Grp}, Reps 𝔅 ρ hp Gs → Reps 𝔅 ρ0 t Hs → Reps 𝔅 ρ' (shH k hp t) (Gs ++ Hs)
  | [], t, Gs, Hs, r, q => by
    have r' : Gs = [] := r
    subst r'
    exact q.mono hl
  | x :: hp, t, Gs, Hs, r, q => by
    obtain ⟨G, R, rfl, r1, r2⟩ := r
    exact ⟨G, R ++ Hs, rfl, r1.sh h, Reps.sh h hl r2 q⟩

mutual
/-- nothing of memory -/
def SV.dry : SV → Bool
  | .p _ _ | .sl .. | .m _ | .nu _ => false
  | .fn _ cap => dryL cap
  | .ifc _ v => SV.dry v
  | .agg l => dryL l
  | .tup l => dryL l
  | _ => true
def dryL : List SV → Bool
  | [] => true
  | x :: l => SV.dry x && dryL l
end
mutual
theorem SV.dry_rel {ρ ρ' : Ren} : ∀ (x : SV) (v : Value), x.dry = true → x.Rel ρ v → x.Rel ρ' v
  | .tt, _, _, r | .ff, _, _, r | .b _, _, _, r | .l _ _, _, _, r | .i _ _, _, _, r | .f _ _, _, _, r | .s _, _, _, r | .t _, _, _, r | .rp _ _, _, _, r | .np, _, _, r | .ns, _, _, r | .nm, _, _, r | .nf, _, _, r | .ni, _, _, r | .v _, _, _, r | .none_, _, _, r => by
    simp only [SV.Rel] at r ⊢; exact r
  | .p b o, v, d, r => by cases d
  | .sl lit b sz frm len cap, v, d, r => by cases d
  | .m b, v, d, r => by cases d
  | .nu b, v, d, r => by cases d
  | .fn f cap, v, d, r => by
    simp only [SV.dry] at d
    simp only [SV.Rel] at r ⊢
    obtain ⟨cs, e, r⟩ := r
    exact ⟨cs, e, dryL_rel cap cs.toList d r⟩
  | .ifc t x, v, d, r => by
    simp only [SV.dry] at d
    simp only [SV.Rel] at r ⊢
    obtain ⟨y, e, r⟩ := r
    exact ⟨y, e, SV.dry_rel x y d r⟩
  | .agg l, v, d, r => by
    simp only [SV.dry] at d
    simp only [SV.Rel] at r ⊢
    obtain ⟨cs, e, r⟩ := r
    exact ⟨cs, e, dryL_rel l cs.toList d r⟩
  | .tup l, v, d, r => by
    simp only [SV.dry] at d
    simp only [SV.Rel] at r ⊢
    obtain ⟨cs, e, r⟩ := r
    exact ⟨cs, e, dryL_rel l cs.toList d r⟩
  | .junk, _, _, _ => by simp only [SV.Rel]
theorem dryL_rel {ρ ρ' : Ren} : ∀ (l : List SV) (vs : List Value), dryL l = true → RelL ρ l vs → RelL ρ' l vs
  | [], vs, _, r => by simp only [RelL] at r ⊢; exact r
  | x :: l, vs, d, r => by
    simp only [dryL, Bool.and_eq_true] at d
    simp only [RelL] at r ⊢
    obtain ⟨v, q, e, r1, r2⟩ := r
    exact ⟨v, q, e, SV.dry_rel x v d.1 r1, dryL_rel l q d.2 r2⟩
end

/-! sameness that the kernel reckons -/
def beqF (a b : FloatKind) : Bool := sameF a b
def Off.beq : Off → Off → Bool
  | .c o, y => (match y with | .c o' => Nat.beq o o' | .r _ _ _ => false)
  | .r a b d, y => (match y with | .c _ => false | .r a' b' d' => Nat.beq a a' && Nat.beq b b' && Nat.beq d d')
theorem Off.beq_eq {a b : Off} (h : a.beq b = true) : a = b := by
  cases a <;> cases b <;> simp only [Off.beq, Bool.and_eq_true, Nat.beq_eq, Bool.false_eq_true] at h <;> simp_all
def Cap.beq : Cap → Cap → Bool
  | .c n, y => (match y with | .c m => Nat.beq n m | _ => false)
  | .v n, y => (match y with | .v m => Nat.beq n m | _ => false)
  | .o i m, y => (match y with | .o i' m' => Nat.beq i i' && Nat.beq m m' | _ => false)
  | .zr, y => (match y with | .zr => true | _ => false)
theorem Cap.beq_eq {a b : Cap} (h : a.beq b = true) : a = b := by
  cases a <;> cases b <;> simp only [Cap.beq, Bool.and_eq_true, Nat.beq_eq, Bool.false_eq_true] at h <;> simp_all
def bb (a b : Bool) : Bool := match a with | true => b | false => !b
theorem bb_eq {a b : Bool} (h : bb a b = true) : a = b := by cases a <;> cases b <;> simp_all [bb]
mutual
def SV.beq : SV → SV → Bool
  | .tt, y => (match y with | .tt => true | _ => false)
  | .ff, y => (match y with | .ff => true | _ => false)
  | .b c, y => (match y with | .b d => bb c d | _ => false)
  | .l k n, y => (match y with | .l k' n' => isK k k' && eqI n n' | _ => false)
  | .i k n, y => (match y with | .i k' n' => isK k k' && eqI n n' | _ => false)
  | .f k n, y => (match y with | .f k' n' => sameF k k' && Nat.beq n n' | _ => false)
  | .t l, y => (match y with | .t m => eqBy l m | _ => false)
  | .p b o, y => (match y with | .p b' o' => Nat.beq b b' && o.beq o' | _ => false)
  | .rp b o, y => (match y with | .rp b' o' => Nat.beq b b' && o.beq o' | _ => false)
  | .np, y => (match y with | .np => true | _ => false)
  | .sl lit b sz f n c, y => (match y with | .sl lit' b' sz' f' n' c' => bb lit lit' && Nat.beq b b' && Nat.beq sz sz' && Nat.beq f f' && Nat.beq n n' && c.beq c' | _ => false)
  | .ns, y => (match y with | .ns => true | _ => false)
  | .m b, y => (match y with | .m b' => Nat.beq b b' | _ => false)
  | .nu b, y => (match y with | .nu b' => Nat.beq b b' | _ => false)
  | .nm, y => (match y with | .nm => true | _ => false)
  | .fn f cap, y => (match y with | .fn f' cap' => Nat.beq f f' && beqL cap cap' | _ => false)
  | .nf, y => (match y with | .nf => true | _ => false)
  | .ifc t v, y => (match y with | .ifc t' v' => Nat.beq t t' && SV.beq v v' | _ => false)
  | .ni, y => (match y with | .ni => true | _ => false)
  | .agg l, y => (match y with | .agg m => beqL l m | _ => false)
  | .tup l, y => (match y with | .tup m => beqL l m | _ => false)
  | .junk, y => (match y with | .junk => true | _ => false)
  | .none_, y => (match y with | .none_ => true | _ => false)
  | .s _, _ => false
  | .v _, _ => false
def beqL : List SV → List SV → Bool
  | [], y => (match y with | [] => true | _ => false)
  | x :: l, y => (match y with | z :: m => SV.beq x z && beqL l m | _ => false)
end
theorem eqI_eq {a b : Int} (h : eqI a b = true) : a = b := by rw [eqI_spec] at h; exact of_decide_eq_true h
theorem eqBy_eq {a b : List UInt8} (h : eqBy a b = true) : a = b := by
  rw [eqBy_spec] at h
  exact beq_iff_eq.1 h
mutual
theorem SV.beq_eq : ∀ (x y : SV), x.beq y = true → x = y
  | .tt, y, h | .ff, y, h | .np, y, h | .ns, y, h | .nm, y, h | .nf, y, h | .ni, y, h | .junk, y, h | .none_, y, h => by
    cases y <;> simp only [SV.beq, Bool.false_eq_true] at h <;> rfl
  | .b c, y, h => by cases y <;> simp only [SV.beq, Bool.false_eq_true] at h; rw [bb_eq h]
  | .l k n, y, h => by
    cases y <;> simp only [SV.beq, Bool.false_eq_true, Bool.and_eq_true] at h
    rw [isK_eq h.1, eqI_eq h.2]
  | .i k n, y, h => by
    cases y <;> simp only [SV.beq, Bool.false_eq_true, Bool.and_eq_true] at h
    rw [isK_eq h.1, eqI_eq h.2]
  | .f k n, y, h => by
    cases y <;> simp only [SV.beq, Bool.false_eq_true, Bool.and_eq_true] at h
    rw [sameF_eq h.1, Nat.eq_of_beq_eq_true h.2]
  | .t l, y, h => by cases y <;> simp only [SV.beq, Bool.false_eq_true] at h; rw [eqBy_eq h]
  | .p b o, y, h => by
    cases y <;> simp only [SV.beq, Bool.false_eq_true, Bool.and_eq_true] at h
    rw [Nat.eq_of_beq_eq_true h.1, Off.beq_eq h.2]
  | .rp b o, y, h => by
    cases y <;> simp only [SV.beq, Bool.false_eq_true, Bool.and_eq_true] at h
    rw [Nat.eq_of_beq_eq_true h.1, Off.beq_eq h.2]
  | .sl lit b sz f n c, y, h => by
    cases y <;> simp only [SV.beq, Bool.false_eq_true, Bool.and_eq_true] at h
    obtain ⟨⟨⟨⟨⟨h1, h2⟩, h3⟩, h4⟩, h5⟩, h6⟩ := h
    rw [bb_eq h1, Nat.eq_of_beq_eq_true h2, Nat.eq_of_beq_eq_true h3, Nat.eq_of_beq_eq_true h4, Nat.eq_of_beq_eq_true h5, Cap.beq_eq h6]
  | .m b, y, h => by cases y <;> simp only [SV.beq, Bool.false_eq_true] at h; rw [Nat.eq_of_beq_eq_true h]
  | .nu b, y, h => by cases y <;> simp only [SV.beq, Bool.false_eq_true] at h; rw [Nat.eq_of_beq_eq_true h]
  | .fn f cap, y, h => by
    cases y <;> simp only [SV.beq, Bool.false_eq_true, Bool.and_eq_true] at h
    rw [show f = _ from Nat.eq_of_beq_eq_true h.1, beqL_eq _ _ h.2]
  | .ifc t v, y, h => by
    cases y <;> simp only [SV.beq, Bool.false_eq_true, Bool.and_eq_true] at h
    rw [show t = _ from Nat.eq_of_beq_eq_true h.1, SV.beq_eq _ _ h.2]
  | .agg l, y, h => by cases y <;> simp only [SV.beq, Bool.false_eq_true] at h; rw [beqL_eq _ _ h]
  | .tup l, y, h => by cases y <;> simp only [SV.beq, Bool.false_eq_true] at h; rw [beqL_eq _ _ h]
  | .s _, _, h => by simp only [SV.beq, Bool.false_eq_true] at h
  | .v _, _, h => by simp only [SV.beq, Bool.false_eq_true] at h
theorem beqL_eq : ∀ (l m : List SV), beqL l m = true → l = m
  | [], m, h => by cases m <;> simp only [beqL, Bool.false_eq_true] at h; rfl
  | x :: l, m, h => by
    cases m <;> simp only [beqL, Bool.false_eq_true, Bool.and_eq_true] at h
    rw [SV.beq_eq _ _ h.1, beqL_eq _ _ h.2]
end
def beqX {α : Type} (q : α → α → Bool) : List α → List α → Bool
  | [], y => (match y with | [] => true | _ => false)
  | x :: l, y => (match y with | z :: m => q x z && beqX q l m | _ => false)
theorem beqX_eq {α : Type} {q : α → α → Bool} (hq : ∀ a b, q a b = true → a = b) : ∀ (l m : List α), beqX q l m = true → l = m
  | [], m, h => by cases m <;> simp only [beqX, Bool.false_eq_true] at h; rfl
  | x :: l, m, h => by
    cases m <;> simp only [beqX, Bool.false_eq_true, Bool.and_eq_true] at h
    rw [hq _ _ h.1, beqX_eq hq _ _ h.2]
def KK.same : KK → KK → Bool
  | .int k, y => (match y with | .int k' => isK k k' | _ => false)
  | .str, y => (match y with | .str => true | _ => false)
  | .non, y => (match y with | .non => true | _ => false)
theorem KK.same_eq {a b : KK} (h : a.same b = true) : a = b := by
  cases a <;> cases b <;> simp only [KK.same, Bool.false_eq_true] at h <;> first | rfl | rw [isK_eq h]
/-- entries of a map of one kind as those of another -/
def beqM (k : KK) (es : List (k.T × SV)) : (k' : KK) → List (k'.T × SV) → Bool := match k with
  | .int _ => fun k' => match k' with
    | .int _ => fun es' => beqX (fun a b => eqI a.1 b.1 && a.2.beq b.2) es es'
    | .str => fun _ => false
    | .non => fun _ => false
  | .str => fun k' => match k' with
    | .int _ => fun _ => false
    | .str => fun es' => beqX (fun a b => eqBy a.1 b.1 && a.2.beq b.2) es es'
    | .non => fun _ => false
  | .non => fun k' => match k' with
    | .int _ => fun _ => false
    | .str => fun _ => false
    | .non => fun es' => (match es with | [] => (match es' with | [] => true | _ => false) | _ => false)
theorem beqM_eq {k : KK} {es : List (k.T × SV)} {es' : List (k.T × SV)} (h : beqM k es k es' = true) : es = es' := by
  cases k with
  | int k =>
    refine beqX_eq (fun a b h => ?_) _ _ h
    obtain ⟨a1, a2⟩ := a
    obtain ⟨b1, b2⟩ := b
    simp only [Bool.and_eq_true] at h
    rw [Prod.mk.injEq]
    exact ⟨eqI_eq h.1, SV.beq_eq _ _ h.2⟩
  | str =>
    refine beqX_eq (fun a b h => ?_) _ _ h
    obtain ⟨a1, a2⟩ := a
    obtain ⟨b1, b2⟩ := b
    simp only [Bool.and_eq_true] at h
    rw [Prod.mk.injEq]
    exact ⟨eqBy_eq h.1, SV.beq_eq _ _ h.2⟩
  | non =>
    cases es with
    | nil => cases es' with
      | nil => rfl
      | cons a l => exact (nomatch a.1)
    | cons a l => exact (nomatch a.1)
def RK.same : RK → RK → Bool
  | .u64, .u64 => true
  | .i64, .i64 => true
  | .bl, .bl => true
  | .one, .one => true
  | _, _ => false
theorem RK.same_eq {a b : RK} (h : a.same b = true) : a = b := by cases a <;> cases b <;> first | rfl | cases h
def SObj.beq : SObj → SObj → Bool
  | .cells t cs, y => (match y with | .cells t' cs' => Nat.beq t t' && beqL cs cs' | _ => false)
  | .vec t sz cs cap, y => (match y with | .vec t' sz' cs' cap' => Nat.beq t t' && Nat.beq sz sz' && beqL cs cs' && cap.beq cap' | _ => false)
  | .row _ _ _ _, _ => false
  | .mp k es, y => (match y with | .mp k' es' => k.same k' && beqM k es k' es' | _ => false)
  | .it b, y => (match y with | .it b' => Nat.beq b b' | _ => false)
  | .big m, y => (match y with | .big m' => BM.same m m' | _ => false)
  | .gone, y => (match y with | .gone => true | _ => false)
theorem SObj.beq_eq {x y : SObj} (h : x.beq y = true) : x = y := by
  cases x with
  | cells t cs =>
    cases y <;> simp only [SObj.beq, Bool.false_eq_true, Bool.and_eq_true] at h
    rw [show t = _ from Nat.eq_of_beq_eq_true h.1, beqL_eq _ _ h.2]
  | vec t sz cs cap =>
    cases y <;> simp only [SObj.beq, Bool.false_eq_true, Bool.and_eq_true] at h
    obtain ⟨⟨⟨h1, h2⟩, h3⟩, h4⟩ := h
    rw [show t = _ from Nat.eq_of_beq_eq_true h1, Nat.eq_of_beq_eq_true h2, beqL_eq _ _ h3, Cap.beq_eq h4]
  | row t k xs cap => cases h
  | mp k es =>
    cases y <;> simp only [SObj.beq, Bool.false_eq_true, Bool.and_eq_true] at h
    obtain ⟨h1, h2⟩ := h
    have := KK.same_eq h1
    subst this
    rw [beqM_eq h2]
  | it b => cases y <;> simp only [SObj.beq, Bool.false_eq_true] at h; rw [Nat.eq_of_beq_eq_true h]
  | big m =>
    cases y <;> simp only [SObj.beq, Bool.false_eq_true] at h
    next m' => rw [BM.same_eq h]
  | gone => cases y <;> simp only [SObj.beq, Bool.false_eq_true] at h; rfl
def beqH : Heap → Heap → Bool
  | [], y => (match y with | [] => true | _ => false)
  | x :: l, y => (match y with | z :: m => Nat.beq x.1 z.1 && x.2.beq z.2 && beqH l m | _ => false)
theorem beqH_eq : ∀ (l m : Heap), beqH l m = true → l = m
  | [], m, h => by cases m <;> simp only [beqH, Bool.false_eq_true] at h; rfl
  | x :: l, m, h => by
    obtain ⟨x1, x2⟩ := x
    cases m with
    | nil => cases h
    | cons z m =>
      obtain ⟨z1, z2⟩ := z
      simp only [beqH, Bool.and_eq_true] at h
      rw [Nat.eq_of_beq_eq_true h.1.1, SObj.beq_eq h.1.2, beqH_eq _ _ h.2]

/-- the second one is some of the first one's objects, in order -/
def subH : Heap → Heap → Bool
  | [], y => (match y with | [] => true | _ => false)
  | x :: l, y => (match y with
    | [] => true
    | z :: m => if Nat.beq x.1 z.1 then x.2.beq z.2 && subH l m else subH l (z :: m))
theorem Reps.sub {𝔅 : BigRep} {ρ : Ren} : ∀ {h h0 : Heap} {Gs : List Grp}, subH h h0 = true → Reps 𝔅 ρ h Gs → ∃ Ks Ds, Reps 𝔅 ρ h0 Ks ∧ Gs.Perm (Ds ++ Ks)
  | [], h0, Gs, e, r => by
    cases h0 with
    | nil => exact ⟨Gs, [], r, by simp⟩
    | cons z m => cases e
  | x :: l, h0, Gs, e, r => by
    obtain ⟨G, R, rfl, r1, r2⟩ := r
    cases h0 with
    | nil => exact ⟨[], G :: R, rfl, by simp⟩
    | cons z m =>
      simp only [subH] at e
      split at e
      next hb =>
        simp only [Bool.and_eq_true] at e
        obtain ⟨Ks, Ds, k1, k2⟩ := Reps.sub e.2 r2
        refine ⟨G :: Ks, Ds, ⟨G, Ks, rfl, ?_, k1⟩, ?_⟩
        · rw [← Nat.eq_of_beq_eq_true hb, ← SObj.beq_eq e.1]; exact r1
        · exact ((k2.cons G).trans (List.perm_middle.symm))
      next =>
        obtain ⟨Ks, Ds, k1, k2⟩ := Reps.sub e r2
        exact ⟨Ks, G :: Ds, k1, k2.cons G⟩
theorem Holds.sub {C : Ctx} {ρ : Ren} {h h0 : Heap} {w : World} (e : subH h h0 = true) (H : Holds C ρ h w) : Holds C ρ h0 w := by
  obtain ⟨Gs, r, hp⟩ := H
  obtain ⟨Ks, Ds, k1, k2⟩ := Reps.sub e r
  refine ⟨Ks, k1, ?_⟩
  have := hp.permG (k2.append_right C.R)
  rw [List.append_assoc] at this
  clear k2 hp
  induction Ds with
  | nil => exact this
  | cons D Ds ih => exact ih (Hp.drop this)
/-- what comes of a run, told -/
noncomputable def tellK : Bool → SV → Heap → Nat → Tree := fun b v h n => .done (if b then .r else .p v) ⟨setsS 0 [v] (blank 1), h, n, []⟩
/-- a result is this one -/
noncomputable def isRes (x : SV) (h : Heap) (n : Nat) : Ex → St → Bool := fun e st => (match e with | .r => true | _ => false) && (sget st.tm 0).beq x && subH st.hp h && Nat.beq st.nx n

/-- a contract of one call at nothing of memory -/
noncomputable def onceSpec (a0 : List SV) (x : SV) (h0 : Heap) (n0 : Nat) : Spec := fun args h n K => if beqL args a0 then K true (x.sh n) (shH n h0 h) (Nat.add n0 n) else .fail 700
theorem once_ok {P : Program} {𝔅 : BigRep} {f : FuncId} {sp : Spec} (hs : SpecEnters P 𝔅 f sp) {a0 : List SV} {x : SV} {h0 : Heap} {n0 : Nat} (hd : dryL a0 = true) (ht : (sp a0 [] 0 tellK).sure (isRes x h0 n0) = true) :
    SpecEnters P 𝔅 f (onceSpec a0 x h0 n0) where
  enter := hs.enter
  calls := by
    intro C Q args h n K hB hk ρ w vs hv hH hbd
    unfold onceSpec at hk
    split at hk
    next he =>
      have := beqL_eq _ _ he
      subst this
      obtain ⟨Hs, hr, hp⟩ := hH
      have key := hs.calls ⟨C.I, Hs ++ C.R, C.B⟩ (fun e st => e = .r ∧ sget st.tm 0 = x ∧ subH st.hp h0 = true ∧ st.nx = n0) args [] 0 tellK hB
        (Tree.sure_den (fun e st hok => by
          simp only [isRes, Bool.and_eq_true] at hok
          obtain ⟨⟨⟨h1, h2⟩, h3⟩, h4⟩ := hok
          refine ⟨?_, SV.beq_eq _ _ h2, h3, Nat.eq_of_beq_eq_true h4⟩
          cases e <;> first | rfl | cases h1) ht)
        (fun _ => none) w vs (dryL_rel _ _ hd hv) ⟨[], rfl, hp⟩ (fun _ _ => rfl)
      refine key.mono ?_
      rintro e w' ⟨b, v, y, h', n', ρ', rfl, hv', hH', hle, hbd', hden⟩
      have hden' : (if b then Ex.r else Ex.p y) = Ex.r ∧ sget (setsS 0 [y] (blank 1)) 0 = x ∧ subH h' h0 = true ∧ n' = n0 := hden
      obtain ⟨hb, hx, hsub, rfl⟩ := hden'
      replace hH' := Holds.sub hsub hH'
      have hb' : b = true := by cases b with
        | true => rfl
        | false => cases hb
      subst hb'
      have hx' : y = x := hx
      subst hx'
      let ρ2 : Ren := fun b => if b < n then ρ b else ρ' (b - n)
      have h2 : ∀ b, ρ2 (b + n) = ρ' b := fun b => by
        show (if b + n < n then ρ (b + n) else ρ' (b + n - n)) = ρ' b
        rw [if_neg (by omega), Nat.add_sub_cancel]
      have hl : ρ.le ρ2 := fun b g hg => by
        show (if b < n then ρ b else ρ' (b - n)) = some g
        rw [if_pos (hbd.lt hg)]; exact hg
      refine ⟨true, v, y.sh n, shH n h0 h, n' + n, ρ2, rfl, SV.sh_rel h2 _ _ hv', ?_, hl, ?_, hk⟩
      · obtain ⟨Gs, r1, r2⟩ := hH'
        exact ⟨Gs ++ Hs, Reps.sh h2 hl r1 hr, by rw [List.append_assoc]; exact r2⟩
      · intro b hb
        show (if b < n then ρ b else ρ' (b - n)) = none
        rw [if_neg (by omega)]
        exact hbd' _ (by omega)
    · exact hk.elim
/-- a contract of one call at one state -/
noncomputable def atSpec (a0 : List SV) (h0 : Heap) (n0 : Nat) (x : SV) (h1 : Heap) (n1 : Nat) : Spec := fun args h n K => if beqL args a0 && beqH h h0 && Nat.beq n n0 then K true x h1 n1 else .fail 701
theorem at_ok {P : Program} {𝔅 : BigRep} {f : FuncId} {sp : Spec} (hs : SpecEnters P 𝔅 f sp) {a0 : List SV} {h0 : Heap} {n0 : Nat} {x : SV} {h1 : Heap} {n1 : Nat} (ht : (sp a0 h0 n0 tellK).sure (isRes x h1 n1) = true) :
    SpecEnters P 𝔅 f (atSpec a0 h0 n0 x h1 n1) where
  enter := hs.enter
  calls := by
    intro C Q args h n K hB hk ρ w vs hv hH hbd
    unfold atSpec at hk
    split at hk
    next he =>
      simp only [Bool.and_eq_true] at he
      obtain ⟨⟨e1, e2⟩, e3⟩ := he
      have := beqL_eq _ _ e1
      subst this
      have := beqH_eq _ _ e2
      subst this
      have := Nat.eq_of_beq_eq_true e3
      subst this
      have key := hs.calls C (fun e st => e = .r ∧ sget st.tm 0 = x ∧ subH st.hp h1 = true ∧ st.nx = n1) args h n tellK hB
        (Tree.sure_den (fun e st hok => by
          simp only [isRes, Bool.and_eq_true] at hok
          obtain ⟨⟨⟨h1, h2⟩, h3⟩, h4⟩ := hok
          refine ⟨?_, SV.beq_eq _ _ h2, h3, Nat.eq_of_beq_eq_true h4⟩
          cases e <;> first | rfl | cases h1) ht) ρ w vs hv hH hbd
      refine key.mono ?_
      rintro e w' ⟨b, v, y, h', n', ρ', rfl, hv', hH', hle, hbd', hden⟩
      have hden' : (if b then Ex.r else Ex.p y) = Ex.r ∧ sget (setsS 0 [y] (blank 1)) 0 = x ∧ subH h' h1 = true ∧ n' = n1 := hden
      obtain ⟨hb, hx, hsub, rfl⟩ := hden'
      replace hH' := Holds.sub hsub hH'
      have hb' : b = true := by cases b with
        | true => rfl
        | false => cases hb
      subst hb'
      have hx' : y = x := hx
      subst hx'
      exact ⟨true, v, y, h1, n', ρ', rfl, hv', hH', hle, hbd', hk⟩
    · exact hk.elim
theorem enters_fnF {P : Program} {E : Env} {𝔅 : BigRep} (hE : EnvOk P 𝔅 E) {ds : FuncId → Option DSpec} (hds : ∀ f sp, ds f = some sp → DSpecOk P 𝔅 f sp) {f : FuncId} {fn : Func} {c : Code} (hf : P.funcs[f]? = some fn) (hb : fn.body = some c) (hname : (fn.name == "runtime.NumGoroutine") = false) :
    SpecEnters P 𝔅 f (fnF E ds fn c) where
  enter := enter_of hf hb hname
  calls := by
    intro C Q args h n K hB hk ρ w vs hv hH hbd
    subst hB
    rw [fnF_eq] at hk
    exact fnT_calls hE hds hf hb hk hv hH hbd
theorem AllOk.treeE {P : Program} {𝔅 : BigRep} {A : All} (h : AllOk P 𝔅 A) {n : Nat} {f : FuncId} {fn : Func} {c : Code} (hf : A.fn f = some fn) (hc : fn.body = some c) : SpecEnters P 𝔅 f (A.tree n f fn c) :=
  enters_fnF (h.env (h.inl n) _) (h.dsp (h.inl n)) (h.fn _ _ hf).1 hc (h.fn _ _ hf).2
/-- one contract where the next number is this, another one elsewhere -/
noncomputable def byN (m : Nat) (a b : Spec) : Spec := fun args h n K => Bool.rec (motive := fun _ => Tree) (b args h n K) (a args h n K) (Nat.beq n m)
theorem byN_ok {P : Program} {𝔅 : BigRep} {f : FuncId} {m : Nat} {a b : Spec} (ha : SpecEnters P 𝔅 f a) (hb : SpecEnters P 𝔅 f b) : SpecEnters P 𝔅 f (byN m a b) where
  enter := ha.enter
  calls := by
    intro C Q args h n K hB hk
    have hk' : (Bool.rec (motive := fun _ => Tree) (b args h n K) (a args h n K) (Nat.beq n m)).den Q := hk
    cases e : Nat.beq n m with
    | true => rw [e] at hk'; exact ha.calls C Q args h n K hB hk'
    | false => rw [e] at hk'; exact hb.calls C Q args h n K hB hk'
def tupL : SV → List SV
  | .tup l => l
  | _ => []
/-! all of a program -/
theorem bodyOf_eq {fn : Func} (h : fn.body.isSome = true) : fn.body = some (bodyOf fn) := by
  unfold bodyOf
  cases hb : fn.body with
  | none => rw [hb] at h; cases h
  | some c => rfl
noncomputable def allP (P : Program) (l : List (FuncId × Spec)) : All := { ty := tiOf P, fn := fun f => P.funcs[f]?, tbl := specAt l, cfg := fun _ => { fuel := 3000 } }
noncomputable def runP (P : Program) (l : List (FuncId × Spec)) (f : FuncId) (fn : Func) : Spec := (allP P l).tree 40 f fn (bodyOf fn)
/-- what is asked of a program -/
structure Fit (P : Program) : Prop where
  names : ∀ (f : Nat) (fn : Func), P.funcs[f]? = some fn → (fn.name == "runtime.NumGoroutine") = false
  mx : P.follows .mixedOrders = true
theorem allP_ok {P : Program} (F : Fit P) {𝔅 : BigRep} {l : List (FuncId × Spec)} (h : ∀ x ∈ l, SpecOk P 𝔅 x.1 x.2) : AllOk P 𝔅 (allP P l) :=
  ⟨fun _ _ h => h, fun _ _ h => ⟨h, F.names _ _ h⟩, specAt_ok h, F.mx⟩
theorem runP_ok {P : Program} (F : Fit P) {𝔅 : BigRep} {l : List (FuncId × Spec)} (h : ∀ x ∈ l, SpecOk P 𝔅 x.1 x.2) {f : FuncId} {fn : Func} (hf : P.funcs[f]? = some fn) (hb : fn.body.isSome = true) : SpecEnters P 𝔅 f (runP P l f fn) :=
  (allP_ok F h).treeE hf (bodyOf_eq hb)
theorem cons_ok {P : Program} {𝔅 : BigRep} {l : List (FuncId × Spec)} {f : FuncId} {s : Spec} (hx : SpecOk P 𝔅 f s) (h : ∀ x ∈ l, SpecOk P 𝔅 x.1 x.2) : ∀ y ∈ (f, s) :: l, SpecOk P 𝔅 y.1 y.2 := by
  intro y hy
  rcases List.mem_cons.1 hy with rfl | hy
  · exact hx
  · exact h y hy
theorem nil_ok {P : Program} {𝔅 : BigRep} : ∀ y ∈ ([] : List (FuncId × Spec)), SpecOk P 𝔅 y.1 y.2 := by simp
/-! literals, short -/
abbrev u (n : Nat) : SV := .l .u64 (.ofNat n)
abbrev j (n : Nat) : SV := .l .i64 (.ofNat n)
abbrev q (b : Nat) : SV := .p b (.c 0)
abbrev mpi (k : IntKind) (es : List (Int × SV)) : SObj := .mp (.int k) es
abbrev mps (es : List (List UInt8 × SV)) : SObj := .mp .str es
def rp_ (n : Nat) (x : SV) (l : List SV) : List SV := Nat.rec (motive := fun _ => List SV) l (fun _ r => x :: r) n
end SX
end Go.Proofs.YtnjaaagiindclaaGreatDoor

/-
  Runs of calls at which all is known: the program.
-/
namespace Go.Proofs.YtnjaaagiindclaaGreatDoor
open Go.RowKit Go.Deep
namespace SX

theorem names_all : Tryz.prog.funcs.toList.all (fun fn => !(fn.name == "runtime.NumGoroutine")) = true := by kernel_rfl
theorem names_of {P : Program} (h0 : P.funcs.toList.all (fun fn => !(fn.name == "runtime.NumGoroutine")) = true) (f : Nat) (fn : Func) (h : P.funcs[f]? = some fn) : (fn.name == "runtime.NumGoroutine") = false := by
  rw [List.all_eq_true] at h0
  have := h0 fn (List.mem_of_getElem? (i := f) (by rw [Array.getElem?_toList]; exact h))
  simpa using this
theorem fit : Fit Tryz.prog := ⟨names_of names_all, by kernel_rfl⟩
/-- functions that the model stands in for -/
noncomputable def wt0 : List (FuncId × Spec) := [(161, spAdd), (240, spFrom), (264, spBits)]
theorem wt0_ok (𝔅 : BigRep) : ∀ x ∈ wt0, SpecOk Tryz.prog 𝔅 x.1 x.2 :=
  cons_ok (spAdd_ok Tryz.func161 (by kernel_rfl) (by kernel_rfl) (by kernel_rfl) (by kernel_rfl))
    (cons_ok (spFrom_ok Tryz.func240 (by kernel_rfl) (by kernel_rfl) (by kernel_rfl) (by kernel_rfl))
      (cons_ok (spBits_ok Tryz.func264 (by kernel_rfl) (by kernel_rfl) (by kernel_rfl) (by kernel_rfl)) nil_ok))
end SX
end Go.Proofs.YtnjaaagiindclaaGreatDoor

/-
  SX: calls in a whole world: what was there stays; a call's tree tells what it answers. No program in sight.
-/
namespace Go.Proofs.YtnjaaagiindclaaGreatDoor
open Go.RowKit Go.Deep
namespace SX

/-- all blocks of a world -/
def allG (W : World) : Grp := (List.range W.heap.size).pmap (fun i h => (i, W.heap[i]'h)) (fun _ h => List.mem_range.1 h)
theorem allG_fst (W : World) : (allG W).map Prod.fst = List.range W.heap.size := by
  unfold allG
  rw [List.map_pmap]
  apply List.ext_getElem
  · simp
  · intro i h1 h2; simp
theorem allG_mem {W : World} {i : Nat} {o : Obj} (h : W.heap[i]? = some o) : (i, o) ∈ allG W := by
  obtain ⟨hi, e⟩ := Array.getElem?_eq_some_iff.1 h
  unfold allG
  rw [List.mem_pmap]
  exact ⟨i, List.mem_range.2 hi, by rw [e]⟩
theorem allG_is {W : World} {x : Blk} (h : x ∈ allG W) : W.heap[x.1]? = some x.2 := by
  unfold allG at h
  rw [List.mem_pmap] at h
  obtain ⟨i, hi, rfl⟩ := h
  exact Array.getElem?_eq_getElem _
/-- the model: all that was there -/
def bigW (W : World) : BigRep := fun _ _ G => G = allG W
def ren0 : Ren := fun b => if b = 0 then some 0 else none
def heap0 : Heap := [(0, .big .z)]
theorem whole_start (W : World) : Holds ⟨W, [], bigW W⟩ ren0 heap0 W := by
  refine ⟨[allG W], ⟨allG W, [], rfl, ⟨0, rfl, rfl⟩, rfl⟩, ⟨⟨rfl, rfl, rfl⟩, ?_, ?_⟩⟩
  · simp only [List.append_nil, List.flatten_cons, List.flatten_nil, allG_fst]
    exact List.nodup_range
  · intro x hx
    simp only [List.append_nil, List.flatten_cons, List.flatten_nil] at hx
    exact allG_is hx
/-- is all that was there said to be there still? -/
noncomputable def big0 (h : Heap) : Bool := match h.get 0 with
  | some o => (match o with | .big m => (match m with | .z => true | _ => false) | _ => false)
  | none => false
theorem big0_get {h : Heap} (e : big0 h = true) : h.get 0 = some (.big .z) := by
  unfold big0 at e
  split at e
  next o ho =>
    rw [ho]
    cases o <;> first | cases e | skip
    next m => cases m <;> first | rfl | cases e
  · cases e
theorem Holds.still {C : Ctx} {W : World} (hB : C.B = bigW W) {ρ : Ren} {h : Heap} {w : World} (H : Holds C ρ h w) (e : big0 h = true) {i : Nat} {o : Obj} (hi : W.heap[i]? = some o) : w.heap[i]? = some o := by
  obtain ⟨G, R', r, hp, _⟩ := H.focus (big0_get e)
  obtain ⟨g, _, hG⟩ := r
  rw [hB] at hG
  have hG : G = allG W := hG
  subst hG
  exact hp.has (i, o) (by simp only [List.flatten_cons, List.mem_append]; exact .inl (allG_mem hi))
theorem Holds.frW {W : World} {R : List Grp} {ρ : Ren} {h : Heap} {w : World} (H : Holds ⟨W, R, bigW W⟩ ρ h w) (e : big0 h = true) : Fr (fun _ => False) W w := by
  have key := fun {i : Nat} {o : Obj} (hi : W.heap[i]? = some o) => H.still rfl e hi
  obtain ⟨Gs, _, hp⟩ := H
  refine ⟨hp.io.1, hp.io.2.1, hp.io.2.2, ?_, fun b hb _ => ?_⟩
  · rcases Nat.lt_or_ge w.heap.size W.heap.size with h1 | h1
    · have h2 : W.heap[w.heap.size]? = some (W.heap[w.heap.size]'h1) := Array.getElem?_eq_getElem _
      have h3 := key h2
      rw [Array.getElem?_eq_none (Nat.le_refl _)] at h3
      cases h3
    · exact h1
  · have h2 : W.heap[b]? = some (W.heap[b]'hb) := Array.getElem?_eq_getElem _
    rw [key h2, h2]
/-- what a call's tree says, of a call in a whole world -/
theorem whole {P : Program} {W : World} {f : FuncId} {sp : Spec} (hs : SpecEnters P (bigW W) f sp) {args : List SV} {vs : Array Value} (hv : RelL ren0 args vs.toList) (Q : Bool → SV → Heap → Nat → Prop)
    (hd : (sp args heap0 1 tellK).den fun e st => ∃ b v, e = (if b then .r else .p v) ∧ sget st.tm 0 = v ∧ Q b v st.hp st.nx) :
    Calls P f vs W fun e w' => ∃ b v x h' n' ρ', e = Ended b v ∧ SV.Rel ρ' x v ∧ Holds ⟨W, [], bigW W⟩ ρ' h' w' ∧ ρ'.bd n' ∧ Q b x h' n' := by
  refine (hs.calls ⟨W, [], bigW W⟩ _ args heap0 1 tellK rfl hd ren0 W vs hv (whole_start W) (fun b hb => if_neg (by omega))).mono ?_
  rintro e w' ⟨b, v, x, h', n', ρ', rfl, hx, hH, _, hbd, b', v', he, hg, hq⟩
  have hg' : x = v' := hg
  subst hg'
  have hb : b = b' := by
    cases b <;> cases b' <;> first | rfl | cases he
  subst hb
  exact ⟨b, v, x, h', n', ρ', rfl, hx, hH, hbd, hq⟩
/-- a call of which all is known but what lies in the world -/
theorem whole_sure {P : Program} {W : World} {f : FuncId} {sp : Spec} (hs : SpecEnters P (bigW W) f sp) {args : List SV} {vs : Array Value} (hv : RelL ren0 args vs.toList) {x : SV} {h : Heap} {n : Nat}
    (ht : (sp args heap0 1 tellK).sure (isRes x h n) = true) :
    Calls P f vs W fun e w' => ∃ v ρ', e = .returned v ∧ SV.Rel ρ' x v ∧ Holds ⟨W, [], bigW W⟩ ρ' h w' := by
  refine (whole hs hv (fun b v h' n' => b = true ∧ v = x ∧ subH h' h = true) (Tree.sure_den (fun e st hok => ?_) ht)).mono ?_
  · simp only [isRes, Bool.and_eq_true] at hok
    obtain ⟨⟨⟨h1, h2⟩, h3⟩, _⟩ := hok
    refine ⟨true, sget st.tm 0, ?_, rfl, rfl, SV.beq_eq _ _ h2, h3⟩
    cases e <;> first | rfl | cases h1
  · rintro e w' ⟨b, v, y, h', n', ρ', rfl, hy, hH, _, rfl, rfl, hsub⟩
    exact ⟨v, ρ', rfl, hy, hH.sub hsub⟩
end SX
end Go.Proofs.YtnjaaagiindclaaGreatDoor

/-
  math/bits.TrailingZeros64. Its table lies.
-/
namespace Go.Proofs.YtnjaaagiindclaaGreatDoor
open Go.RowKit Go.Deep Go.Shelf

def tzRen : Go.Shelf.Ren := ⟨fun | 29 => 168 | n => n, fun | 0 => 0 | 3 => 3 | 4 => 4 | 5 => 5 | 22 => 22 | 25 => 249 | 54 => 322 | n => n, fun | 1 => 0 | n => n⟩
theorem tzLays : Go.Proofs.Lays7.n29 Tryz.prog tzRen := {
  mixed := by kernel_rfl
  f29 := Tryz.func168.trans (congrArg some (by kernel_rfl))
  t0 := Tryz.underlying0, a0 := Tryz.isAgg0, z0 := Tryz.sizeOf0, v0 := Tryz.zeroValue0, i0 := by kernel_rfl
  t3 := Tryz.underlying3, a3 := Tryz.isAgg3, z3 := Tryz.sizeOf3, v3 := Tryz.zeroValue3, i3 := by kernel_rfl
  t4 := Tryz.underlying4, a4 := Tryz.isAgg4, z4 := Tryz.sizeOf4, v4 := Tryz.zeroValue4, i4 := by kernel_rfl
  t5 := Tryz.underlying5, a5 := Tryz.isAgg5, z5 := Tryz.sizeOf5, v5 := Tryz.zeroValue5, i5 := by kernel_rfl
  t22 := Tryz.underlying22, a22 := Tryz.isAgg22, z22 := Tryz.sizeOf22, v22 := Tryz.zeroValue22, i22 := by kernel_rfl
  t25 := Tryz.underlying249, a25 := Tryz.isAgg249, z25 := Tryz.sizeOf249, v25 := Tryz.zeroValue249, i25 := by kernel_rfl
  t54 := Tryz.underlying322, a54 := Tryz.isAgg322, z54 := Tryz.sizeOf322
  g1 := by kernel_rfl }
/-- the table that is read -/
structure Laid (w : World) : Prop where
  tz : TabAt 0 Lib.deBruijn64tab w
theorem Laid.fr {w w' : World} (h : Laid w) (hf : Fr (fun _ => False) w w') : Laid w' := ⟨fun j hj => by
  have hc := h.tz j hj
  have hlt := World.block_lt_of_cell? _ _ hc
  rw [World.cell?_of_block (hf.same _ hlt (fun x => x))]
  exact hc⟩
namespace SX
theorem Holds.stillB {W : World} {C : Ctx} (hB : ∀ g G, C.B .z g G → G = allG W) {ρ : Ren} {h : Heap} {w : World} (H : Holds C ρ h w) (e : big0 h = true) {i : Nat} {o : Obj} (hi : W.heap[i]? = some o) : w.heap[i]? = some o := by
  obtain ⟨G, R', ⟨g, _, hG⟩, hp, _⟩ := H.focus (big0_get e)
  rw [hB _ _ hG] at hp
  exact hp.has (i, o) (by simp only [List.flatten_cons, List.mem_append]; exact .inl (allG_mem hi))
theorem Holds.frB {W : World} {C : Ctx} (hI : C.I = W) (hB : ∀ g G, C.B .z g G → G = allG W) {ρ : Ren} {h : Heap} {w : World} (H : Holds C ρ h w) (e : big0 h = true) : Fr (fun _ => False) W w := by
  have key := fun {i : Nat} {o : Obj} (hi : W.heap[i]? = some o) => H.stillB hB e hi
  obtain ⟨Gs, _, hp⟩ := H
  rw [hI] at hp
  refine ⟨hp.io.1, hp.io.2.1, hp.io.2.2, ?_, fun b hb _ => ?_⟩
  · rcases Nat.lt_or_ge w.heap.size W.heap.size with h1 | h1
    · have h2 : W.heap[w.heap.size]? = some (W.heap[w.heap.size]'h1) := Array.getElem?_eq_getElem _
      have h3 := key h2
      rw [Array.getElem?_eq_none (Nat.le_refl _)] at h3
      cases h3
    · exact h1
  · have h2 : W.heap[b]? = some (W.heap[b]'hb) := Array.getElem?_eq_getElem _
    rw [key h2, h2]
theorem Holds.laid {W : World} {C : Ctx} (hB : ∀ g G, C.B .z g G → G = allG W) (hL : Laid W) {ρ : Ren} {h : Heap} {w : World} (H : Holds C ρ h w) (e : big0 h = true) : Laid w := ⟨fun j hj => by
  have hc := hL.tz j hj
  have hlt := World.block_lt_of_cell? _ _ hc
  have h2 : W.heap[0]? = some (W.heap[0]'hlt) := Array.getElem?_eq_getElem _
  rw [World.cell?_of_block (w := W) (w' := w) (a := ⟨0, j, none⟩) (by rw [H.stillB hB e h2, h2])]
  exact hc⟩
/-- TrailingZeros64 of a number that is known -/
noncomputable def spTz : Spec := fun args h n K => match args with
  | [x] => (match x with
    | .l k z => (match z with
      | .ofNat u => if isK k .u64 && (Nat.blt u 18446744073709551616 && big0 h) then K true (.l .i64 (Lib.ctz 64 u)) h n else .fail 951
      | _ => .fail 952)
    | _ => .fail 953)
  | _ => .fail 954
theorem spTz_ok {W : World} {𝔅 : BigRep} (hB : ∀ g G, 𝔅 .z g G → G = allG W) (hL : Laid W) : SpecEnters Tryz.prog 𝔅 168 spTz where
  enter := enter_of Tryz.func168 (bodyOf_eq (by kernel_rfl)) (by kernel_rfl)
  calls := by
    intro C Q args h n K hBC hk ρ w vs hv hH hbd
    unfold spTz at hk
    split at hk <;> try exact hk.elim
    split at hk <;> try exact hk.elim
    split at hk <;> try exact hk.elim
    split at hk <;> try exact hk.elim
    rename_i x0 k z0 u hc
    simp only [Bool.and_eq_true] at hc
    obtain ⟨h1, h2, h3⟩ := hc
    have hk64 := isK_eq h1
    subst hk64
    have hu : u < 18446744073709551616 := by simpa [Nat.blt_eq] using h2
    obtain ⟨v1, us, e1, hx, hus⟩ := hv
    have hus' : us = [] := hus
    subst hus'
    simp only [SV.Rel] at hx
    subst hx
    have e2 : vs = #[.int .u64 (u : Int)] := by rw [← Array.toList_inj, e1]; rfl
    subst e2
    have hLw := hH.laid (by rw [hBC]; exact hB) hL h3
    refine (Any7.bits_TrailingZeros64 tzLays u hu w (fun _ => hLw.tz)).mono ?_
    rintro e w' ⟨rfl, rfl⟩
    exact ⟨true, _, .l .i64 (Lib.ctz 64 u), h, n, ρ, rfl, by simp only [SV.Rel], hH, .refl _, hbd, hk⟩
end SX
end Go.Proofs.YtnjaaagiindclaaGreatDoor

/-
  class.Table, once.
-/
namespace Go.Proofs.YtnjaaagiindclaaGreatDoor
open Go.RowKit Go.Deep
namespace SX
/- TB r: 1 objects of 135 -/
def TBv : SV := (.sl true 200 4 0 68 (.o 201 0))
def TBn : Nat := 202
def TBh0 (h : Heap) : Heap :=
  (200, .vec 34 4 [(j 0), (j 0), (j 0), (.l .u32 0), (j 8), (j 1), (j 1024), (.l .u32 536870912), (j 16), (j 1), (j 512), (.l .u32 268435456), (j 24), (j 1), (j 341), (.l .u32 178956971), (j 32), (j 1), (j 256), (.l .u32 134217728), (j 48), (j 1), (j 170), (.l .u32 89478486), (j 64), (j 1), (j 128), (.l .u32 67108864), (j 80), (j 1), (j 102), (.l .u32 53687092), (j 96), (j 1), (j 85), (.l .u32 44739243), (j 112), (j 1), (j 73), (.l .u32 38347923), (j 128), (j 1), (j 64), (.l .u32 33554432), (j 144), (j 1), (j 56), (.l .u32 29826162), (j 160), (j 1), (j 51), (.l .u32 26843546), (j 176), (j 1), (j 46), (.l .u32 24403224), (j 192), (j 1), (j 42), (.l .u32 22369622), (j 208), (j 1), (j 39), (.l .u32 20648882), (j 224), (j 1), (j 36), (.l .u32 19173962), (j 240), (j 1), (j 34), (.l .u32 17895698), (j 256), (j 1), (j 32), (.l .u32 16777216), (j 288), (j 1), (j 28), (.l .u32 14913081), (j 320), (j 1), (j 25), (.l .u32 13421773), (j 352), (j 1), (j 23), (.l .u32 12201612), (j 384), (j 1), (j 21), (.l .u32 11184811), (j 416), (j 1), (j 19), (.l .u32 10324441), (j 448), (j 1), (j 18), (.l .u32 9586981), (j 480), (j 1), (j 17), (.l .u32 8947849), (j 512), (j 1), (j 16), (.l .u32 8388608), (j 576), (j 1), (j 14), (.l .u32 7456541), (j 640), (j 1), (j 12), (.l .u32 6710887), (j 704), (j 1), (j 11), (.l .u32 6100806), (j 768), (j 1), (j 10), (.l .u32 5592406), (j 896), (j 1), (j 9), (.l .u32 4793491), (j 1024), (j 1), (j 8), (.l .u32 4194304), (j 1152), (j 1), (j 7), (.l .u32 3728271), (j 1280), (j 1), (j 6), (.l .u32 3355444), (j 1408), (j 2), (j 11), (.l .u32 3050403), (j 1536), (j 1), (j 5), (.l .u32 2796203), (j 1792), (j 2), (j 9), (.l .u32 2396746), (j 2048), (j 1), (j 4), (.l .u32 2097152), (j 2304), (j 2), (j 7), (.l .u32 1864136), (j 2688), (j 1), (j 3), (.l .u32 1597831), (j 3072), (j 3), (j 8), (.l .u32 1398102), (j 3200), (j 2), (j 5), (.l .u32 1342178), (j 3456), (j 3), (j 7), (.l .u32 1242757), (j 4096), (j 1), (j 2), (.l .u32 1048576), (j 4864), (j 3), (j 5), (.l .u32 883012), (j 5376), (j 2), (j 3), (.l .u32 798916), (j 6144), (j 3), (j 4), (.l .u32 699051), (j 6528), (j 4), (j 5), (.l .u32 657931), (j 6784), (j 5), (j 6), (.l .u32 633103), (j 6912), (j 6), (j 7), (.l .u32 621379), (j 8192), (j 1), (j 1), (.l .u32 524288), (j 9472), (j 7), (j 6), (.l .u32 453439), (j 9728), (j 6), (j 5), (.l .u32 441506), (j 10240), (j 5), (j 4), (.l .u32 419431), (j 10880), (j 4), (j 3), (.l .u32 394759), (j 12288), (j 3), (j 2), (.l .u32 349526), (j 13568), (j 5), (j 3), (.l .u32 316552), (j 14336), (j 7), (j 4), (.l .u32 299594), (j 16384), (j 2), (j 1), (.l .u32 262144), (j 18432), (j 9), (j 4), (.l .u32 233017), (j 19072), (j 7), (j 3), (.l .u32 225198), (j 20480), (j 5), (j 2), (.l .u32 209716), (j 21760), (j 8), (j 3), (.l .u32 197380), (j 24576), (j 3), (j 1), (.l .u32 174763), (j 27264), (j 10), (j 3), (.l .u32 157533), (j 28672), (j 7), (j 2), (.l .u32 149797), (j 32768), (j 4), (j 1), (.l .u32 131072)] (.o 201 0)) :: h
def TBh : Heap := TBh0 []

theorem tb_sure : (runP Tryz.prog wt0 10 Tryz.f10 [] [] 0 tellK).sure (isRes TBv TBh TBn) = true := by kernel_rfl
noncomputable def wt1 : List (FuncId × Spec) := (10, onceSpec [] TBv TBh TBn) :: wt0
theorem wt1_ok (𝔅 : BigRep) : ∀ x ∈ wt1, SpecOk Tryz.prog 𝔅 x.1 x.2 := cons_ok (.inl (once_ok (runP_ok fit (wt0_ok 𝔅) Tryz.func10 (by kernel_rfl)) rfl tb_sure)) (wt0_ok 𝔅)
end SX
end Go.Proofs.YtnjaaagiindclaaGreatDoor

/-
  sort.Search over a closure with two captured values.
-/
namespace Go.Proofs.YtnjaaagiindclaaGreatDoor
open Go.RowKit Go.Deep

theorem half_eq (i j : Nat) : (((i + j) / 2 : Nat) : Int) = ((i : Int) + (j : Int)) / 2 := by omega

set_option maxHeartbeats 1000000 in
theorem search_any {g : FuncId} {c1 c2 : Value} {n : Nat} {p : Nat → Bool} (w : World) (eg : ∀ args w, (callFunc g args).run Tryz.prog w = .ok (.enter g args) w) (hn : n ≤ 1000000000)
    (hf : ∀ m i : Nat, i < n → Calls Tryz.prog g #[.int .i64 i, c1, c2] (w.drewN m) fun e w' => e = .returned (.bool (p i)) ∧ ∃ q, w' = w.drewN q)
    (mono : ∀ a b, a ≤ b → b < n → p a = true → p b = true) :
    Calls Tryz.prog 147 #[.int .i64 n, .func (.func g) #[] #[c1, c2]] w fun e w' =>
      ∃ (r q : Nat), e = .returned (.int .i64 r) ∧ w' = w.drewN q ∧ r ≤ n ∧ (∀ i, i < r → p i = false) ∧ (∀ i, r ≤ i → i < n → p i = true) := by
  replace hf := Lib.hid hf
  replace mono := Lib.hid mono
  go_enter Tryz.func147, Tryz.ntmps147
  go_wp2_with fail
  go_loopg [5, 6] n (fun k i j wr => ∃ (a b m : Nat), i = .int .i64 a ∧ j = .int .i64 b ∧ a + k = b ∧ wr = w.drewN m ∧ Hid (b ≤ n ∧ (∀ i, i < a → p i = false) ∧ (∀ i, b ≤ i → i < n → p i = true)))
  case atStart => exact ⟨0, n, 0, rfl, rfl, by simp, rfl, Lib.hid ⟨Nat.le_refl _, by simp, fun i h1 h2 => by omega⟩⟩
  case round =>
    obtain ⟨a, b, m, rfl, rfl, hk, rfl, H⟩ := hrel
    have hb := H.out.1
    by_cases hab : a < b
    · have hh : (a + b) / 2 < n := by omega
      have hc := hf.out m ((a + b) / 2) hh
      rw [half_eq] at hc
      have hc := Lib.hid hc
      have hk' := Lib.hid hk
      have hM := Lib.hid mono.out
      clear hk
      go_wp2_with (refine hc.out.mono ?_; rintro e w2 ⟨rfl, q, rfl⟩)
      all_goals rename_i hp
      · go_roundg (b - ((a + b) / 2 + 1))
        case measure => have := hk'.out; omega
        case rel =>
          have := hk'.out
          refine ⟨(a + b) / 2 + 1, b, q, by go_num, rfl, by omega, rfl, Lib.hid ⟨hb, fun i h1 => ?_, H.out.2.2⟩⟩
          cases hpi : p i with
          | false => rfl
          | true =>
            have := hM.out i ((a + b) / 2) (by omega) hh hpi
            rw [this] at hp; simp at hp
      · go_roundg ((a + b) / 2 - a)
        case measure => have := hk'.out; omega
        case rel =>
          have := hk'.out
          refine ⟨a, (a + b) / 2, q, rfl, by rw [half_eq], by omega, rfl, Lib.hid ⟨by omega, H.out.2.1, fun i h1 h2 => ?_⟩⟩
          exact hM.out _ i h1 h2 (by simpa using hp)
    · have hab' : a = b := by omega
      subst hab'
      clear hk
      go_wp2
      go_ret
      exact ⟨a, m, rfl, rfl, hb, H.out.2.1, H.out.2.2⟩
end Go.Proofs.YtnjaaagiindclaaGreatDoor

/-
  Spans in sets: keys and what the memory holds.
-/
namespace Go.Proofs.YtnjaaagiindclaaGreatDoor
open Go.RowKit Go.Deep

/-- which set: class, without pointers, full, swept -/
abbrev Kd := Int × Bool × Bool × Bool
def kenc (k : Kd) : Value := .agg #[.int .i64 k.1, .bool k.2.1, .bool k.2.2.1, .bool k.2.2.2]

theorem keyLaw_kind : KeyLaw Tryz.prog 165 kenc where
  now := ⟨_, Tryz.underlying165, fun a b => .inl rfl⟩
  check := fun empty z w => by
    have h1 : ∀ z W, (Instr.checkKey empty 9999 3 (.int .i64 z)).run Tryz.prog W = .ok () W := fun z W => by unfold Instr.checkKey; simp [run_underlying Tryz.underlying3]
    have h2 : ∀ z W, (Instr.checkKey empty 9999 4 (.bool z)).run Tryz.prog W = .ok () W := fun z W => by unfold Instr.checkKey; simp [run_underlying Tryz.underlying4]
    have p0 : ∀ W, (part 3 #[.int .i64 z.1, .bool z.2.1, .bool z.2.2.1, .bool z.2.2.2] 0).run Tryz.prog W = .ok (.int .i64 z.1) W := fun W => run_part_plain W (by simp [Program.plainKey, Tryz.underlying3]) rfl
    have p1 : ∀ W, (part 4 #[.int .i64 z.1, .bool z.2.1, .bool z.2.2.1, .bool z.2.2.2] 1).run Tryz.prog W = .ok (.bool z.2.1) W := fun W => run_part_plain W (by simp [Program.plainKey, Tryz.underlying4]) rfl
    have p2 : ∀ W, (part 4 #[.int .i64 z.1, .bool z.2.1, .bool z.2.2.1, .bool z.2.2.2] 2).run Tryz.prog W = .ok (.bool z.2.2.1) W := fun W => run_part_plain W (by simp [Program.plainKey, Tryz.underlying4]) rfl
    have p3 : ∀ W, (part 4 #[.int .i64 z.1, .bool z.2.1, .bool z.2.2.1, .bool z.2.2.2] 3).run Tryz.prog W = .ok (.bool z.2.2.2) W := fun W => run_part_plain W (by simp [Program.plainKey, Tryz.underlying4]) rfl
    have h0 : Instr.checkKey empty 10000 165 (kenc z) = Instr.checkKey empty (9999 + 1) 165 (kenc z) := rfl
    rw [h0]
    unfold Instr.checkKey
    simp only [Sem.run_bind, run_underlying Tryz.underlying165, Result.andThen, kenc]
    rw [← Array.forIn_toList]
    simp only [List.forIn_cons, List.forIn_nil]
    simp [p0, p1, p2, p3, h1, h2, Result.andThen]
  eq := fun a b w => by
    have e1 : ∀ x y W, (Op.equalIn 9999 3 (.int .i64 x) (.int .i64 y)).run Tryz.prog W = .ok (x == y) W := fun x y W => by unfold Op.equalIn; simp [run_underlying Tryz.underlying3]
    have e2 : ∀ x y W, (Op.equalIn 9999 4 (.bool x) (.bool y)).run Tryz.prog W = .ok (x == y) W := fun x y W => by unfold Op.equalIn; simp [run_underlying Tryz.underlying4]
    have p0 : ∀ (x : Int) (y z u : Bool) W, (part 3 #[.int .i64 x, .bool y, .bool z, .bool u] 0).run Tryz.prog W = .ok (.int .i64 x) W := fun x y z u W => run_part_plain W (by simp [Program.plainKey, Tryz.underlying3]) rfl
    have p1 : ∀ (x : Int) (y z u : Bool) W, (part 4 #[.int .i64 x, .bool y, .bool z, .bool u] 1).run Tryz.prog W = .ok (.bool y) W := fun x y z u W => run_part_plain W (by simp [Program.plainKey, Tryz.underlying4]) rfl
    have p2 : ∀ (x : Int) (y z u : Bool) W, (part 4 #[.int .i64 x, .bool y, .bool z, .bool u] 2).run Tryz.prog W = .ok (.bool z) W := fun x y z u W => run_part_plain W (by simp [Program.plainKey, Tryz.underlying4]) rfl
    have p3 : ∀ (x : Int) (y z u : Bool) W, (part 4 #[.int .i64 x, .bool y, .bool z, .bool u] 3).run Tryz.prog W = .ok (.bool u) W := fun x y z u W => run_part_plain W (by simp [Program.plainKey, Tryz.underlying4]) rfl
    have hs : Tryz.prog.stoodInHeld 165 = false := by decide +kernel
    show (Op.equalIn (9999 + 1) _ _ _).run _ _ = _
    unfold Op.equalIn
    simp only [Sem.run_bind, run_underlying Tryz.underlying165, Result.andThen, kenc, run_program, hs]
    rw [← Array.forIn_toList]
    simp only [List.forIn_cons, List.forIn_nil]
    obtain ⟨a1, a2, a3, a4⟩ := a
    obtain ⟨b1, b2, b3, b4⟩ := b
    by_cases h1 : a1 = b1
    · cases a2 <;> cases b2 <;> cases a3 <;> cases b3 <;> cases a4 <;> cases b4 <;> simp [p0, p1, p2, p3, e1, e2, Result.andThen, h1]
    · simp [p0, e1, Result.andThen, h1]
  same := fun z => by simp [Instr.sameBits, kenc]

/-- a span: where its record lies, and what is in it -/
structure It where
  b : Nat
  id : Int
  base : Int
  kd : Kd

def It.cells (x : It) : Array Value := #[.int .i64 x.id, .int .u64 x.base, .int .i64 x.kd.1, .bool x.kd.2.1, .bool x.kd.2.2.1, .bool x.kd.2.2.2]
def It.ptr (x : It) : Value := .pointer (some ⟨x.b, 0, none⟩)
def ienc (z : Int) : Value := .int .i64 z
def benc (z : Int) : Value := .int .u64 z
theorem keyLaw_i : KeyLaw Tryz.prog 3 ienc := keyLaw_int Tryz.underlying3
theorem keyLaw_b : KeyLaw Tryz.prog 22 benc := keyLaw_int Tryz.underlying22

/-- the row of a kind: its spans by rising base -/
structure RowOf (L : List It) (k : Kd) (r : List It) : Prop where
  ord : r.Pairwise (fun x y => x.base < y.base)
  mem : ∀ x, x ∈ r ↔ x ∈ L ∧ x.kd = k

/-- the rows of the sets that begin in block s hold the spans L -/
structure Core (w : World) (s m1 m2 m3 : Nat) (i3 : List (Kd × Value)) (L : List It) : Prop where
  root : w.heap[s]? = some (.cells #[.map (some m1), .map (some m2), .map (some m3)] 163 (0, 0))
  sets : MapIs kenc w m3 i3
  node : ∀ x ∈ L, w.heap[x.b]? = some (.cells x.cells 167 (0, 0))
  ndb : (L.map (·.b)).Nodup
  ndB : (L.map (·.base)).Nodup
  row : ∀ k v, (k, v) ∈ i3 → ∃ r, RowOf L k r ∧ w.ownsRow 0 158 1 v r.length (r.map It.ptr)
  all : ∀ x ∈ L, x.kd ∈ i3.map (·.1)
  sepS : ∀ x ∈ L, x.b ≠ s
  sepR : ∀ k v g, (k, v) ∈ i3 → v.ownBlock = some g → g ≠ s ∧ ∀ x ∈ L, g ≠ x.b
  sepK : ∀ k v k' v' g, (k, v) ∈ i3 → (k', v') ∈ i3 → v.ownBlock = some g → v'.ownBlock = some g → k = k'

/-- the sets that begin in block s hold the spans L -/
structure Sets (w : World) (s m1 m2 m3 : Nat) (i1 i2 : List (Int × Value)) (i3 : List (Kd × Value)) (L : List It) : Prop where
  core : Core w s m1 m2 m3 i3 L
  ids : MapIs ienc w m1 i1
  bases : MapIs benc w m2 i2
  idsL : ∀ z v, (z, v) ∈ i1 ↔ ∃ x ∈ L, x.id = z ∧ v = x.ptr
  basesL : ∀ z v, (z, v) ∈ i2 ↔ ∃ x ∈ L, x.base = z ∧ v = x.ptr
  ndI : (L.map (·.id)).Nodup
  sepM : m1 ≠ m2 ∧ m1 ≠ m3 ∧ m2 ≠ m3

/-- the blocks that the sets may write -/
def sfp (s m1 m2 m3 : Nat) (i3 : List (Kd × Value)) (L : List It) (b : Nat) : Prop :=
  b = s ∨ b = m1 ∨ b = m2 ∨ b = m3 ∨ (∃ x ∈ L, b = x.b) ∨ ∃ k v, (k, v) ∈ i3 ∧ v.ownBlock = some b

theorem MapIs.ne {κ : Type} {enc : κ → Value} {w : World} {b b' : Nat} {m : List (κ × Value)} {c : Array Value} {t : TypeId} {f : Nat × Nat} (h : MapIs enc w b m) (hc : w.heap[b']? = some (.cells c t f)) : b' ≠ b := by
  rintro rfl
  obtain ⟨es, cl, h1, _⟩ := h
  rw [h1] at hc; simp at hc

theorem ownsRow_blk {w : World} {B T sz n : Nat} {v : Value} {xs : List Value} (h : w.ownsRow B T sz v n xs) {g : Nat} (hg : v.ownBlock = some g) : ∃ cur, w.heap[g]? = some (.cells cur T (0, 0)) := by
  rcases h with ⟨_, ⟨rfl, _⟩ | ⟨g', cap, cur, rfl, _, hb, _⟩⟩
  · simp [Value.ownBlock] at hg
  · simp only [Value.ownBlock, Option.some.injEq] at hg
    subst hg; exact ⟨cur, hb⟩

theorem cell_through {S : Nat → Prop} {w w' : World} {b i : Nat} {v : Value} (hf : Fr S w w') (h : w.cell? ⟨b, i, none⟩ = some v) (hs : ¬ S b) : w'.cell? ⟨b, i, none⟩ = some v := by
  have hlt := World.block_lt_of_cell? _ _ h
  rw [World.cell?_of_block (w := w) (hf.same b hlt hs)]; exact h

theorem MapIs.frk {κ : Type} {enc : κ → Value} {w w' : World} {b : Nat} {m : List (κ × Value)} (h : MapIs enc w b m) {S : Nat → Prop} (hf : Fr S w w') (hs : ¬ S b) : MapIs enc w' b m := by
  obtain ⟨es, c, h1, h2⟩ := h
  exact ⟨es, c, hf.at h1 hs, h2⟩
theorem MapIs.drewN {κ : Type} {enc : κ → Value} {w : World} {b : Nat} {m : List (κ × Value)} (h : MapIs enc w b m) (n : Nat) : MapIs enc (w.drewN n) b m := h

theorem ownsRow_keep {w w' : World} {B T sz n : Nat} {v : Value} {xs : List Value} {S : Nat → Prop} (h : w.ownsRow B T sz v n xs) (hf : Fr S w w') (hs : ∀ g, v.ownBlock = some g → ¬ S g) : w'.ownsRow B T sz v n xs := by
  rcases h with ⟨hl, h | ⟨g, cap, cur, rfl, hg, hb, h⟩⟩
  · exact ⟨hl, .inl h⟩
  · exact ⟨hl, .inr ⟨g, cap, cur, rfl, hg, hf.at hb (hs g rfl), h⟩⟩

/-- the rows are kept where nothing of theirs turns -/
theorem Core.keep {w w' : World} {s m1 m2 m3 : Nat} {i3 : List (Kd × Value)} {L : List It} (h : Core w s m1 m2 m3 i3 L) {S : Nat → Prop} (hf : Fr S w w') (hs : ¬ S s) (h3 : ¬ S m3) (hx : ∀ x ∈ L, ¬ S x.b)
    (hr : ∀ k v g, (k, v) ∈ i3 → v.ownBlock = some g → ¬ S g) : Core w' s m1 m2 m3 i3 L :=
  ⟨hf.at h.root hs, h.sets.frk hf h3, fun x hm => hf.at (h.node x hm) (hx x hm), h.ndb, h.ndB,
    fun k v hm => by obtain ⟨r, h1, h2⟩ := h.row k v hm; exact ⟨r, h1, ownsRow_keep h2 hf (fun g hg => hr k v g hm hg)⟩, h.all, h.sepS, h.sepR, h.sepK⟩

/-- another map turns: the rows are kept -/
theorem Core.keep_map {w w' : World} {s m1 m2 m3 mx : Nat} {κ : Type} {enc : κ → Value} {ix : List (κ × Value)} {i3 : List (Kd × Value)} {L : List It} (h : Core w s m1 m2 m3 i3 L) (hm : MapIs enc w mx ix) (hne : mx ≠ m3) (hf : Fr (fun b => b = mx) w w') : Core w' s m1 m2 m3 i3 L :=
  h.keep hf (hm.ne h.root) (fun e => hne e.symm) (fun x hx => hm.ne (h.node x hx)) (fun k v g hm' hg => by
    obtain ⟨r, _, ho⟩ := h.row k v hm'
    obtain ⟨cur, hc⟩ := ownsRow_blk ho hg
    exact hm.ne hc)

theorem Core.quiet {w w' : World} {s m1 m2 m3 : Nat} {i3 : List (Kd × Value)} {L : List It} (h : Core w s m1 m2 m3 i3 L) (hf : Fr (fun _ => False) w w') : Core w' s m1 m2 m3 i3 L :=
  h.keep hf (fun x => x) (fun x => x) (fun _ _ x => x) (fun _ _ _ _ _ x => x)
end Go.Proofs.YtnjaaagiindclaaGreatDoor

/-
  Where a span stands in its row.
-/
namespace Go.Proofs.YtnjaaagiindclaaGreatDoor
open Go.RowKit Go.Deep

theorem Core.look {w : World} {s m1 m2 m3 : Nat} {i3 : List (Kd × Value)} {L : List It} (h : Core w s m1 m2 m3 i3 L) (k : Kd) :
    ∃ r a c, (mapGet i3 k).getD (.slice none 0 0) = .slice a r.length c ∧ RowOf L k r ∧ w.ownsRow 0 158 1 (.slice a r.length c) r.length (r.map It.ptr) := by
  cases hg : mapGet i3 k with
  | none =>
    refine ⟨[], none, 0, rfl, ⟨List.Pairwise.nil, fun x => ?_⟩, World.ownsRow_nil _ _ _ _⟩
    constructor
    · intro hx; simp at hx
    · rintro ⟨hx, rfl⟩
      exact absurd (h.all x hx) (mapGet_none.1 hg)
  | some v =>
    have hm := (mapGet_some h.sets.nodup).1 hg
    obtain ⟨r, hr, ho⟩ := h.row k v hm
    obtain ⟨a, c, rfl⟩ := ownsRow_form ho
    exact ⟨r, a, c, rfl, hr, ho⟩

/-- how many of a row stand below a base -/
def pos (r : List It) (z : Int) : Nat := (r.takeWhile (fun x => decide (x.base < z))).length

theorem pos_le (r : List It) (z : Int) : pos r z ≤ r.length := (List.takeWhile_sublist _).length_le

theorem pos_of {r : List It} {z : Int} {j : Nat} (hj : j ≤ r.length) (h1 : ∀ i x, i < j → r[i]? = some x → x.base < z) (h2 : ∀ i x, j ≤ i → r[i]? = some x → z ≤ x.base) : pos r z = j := by
  unfold pos
  induction r generalizing j with
  | nil => simp at hj; subst hj; rfl
  | cons x r ih =>
    cases j with
    | zero =>
      have := h2 0 x (Nat.le_refl _) rfl
      rw [List.takeWhile_cons_of_neg (by simp; omega)]; rfl
    | succ j =>
      have := h1 0 x (by omega) rfl
      rw [List.takeWhile_cons_of_pos (by simpa using this), List.length_cons, ih (j := j) (by simpa using hj) (fun i y hi hy => h1 (i + 1) y (by omega) (by simpa using hy)) (fun i y hi hy => h2 (i + 1) y (by omega) (by simpa using hy))]

set_option maxHeartbeats 1000000 in
theorem place_at (l z : Nat) (i : Nat) (r : List It) (a : Option Addr) (c : Nat) (bs : Int) (x : It) (w : World) (hl : w.cell? ⟨l, 0, none⟩ = some (.slice a r.length c)) (hz : w.cell? ⟨z, 0, none⟩ = some (.int .u64 bs))
    (hrd : Rd w 1 (.slice a r.length c) r.length (r.map It.ptr)) (hi : r[i]? = some x) (hb : w.cell? ⟨x.b, 1, none⟩ = some (.int .u64 x.base)) :
    Calls Tryz.prog 262 #[.int .i64 i, .pointer (some ⟨l, 0, none⟩), .pointer (some ⟨z, 0, none⟩)] w fun e w' => e = .returned (.bool (decide (bs ≤ x.base))) ∧ ∃ q, w' = w.drewN q := by
  obtain ⟨a', c', hv, _, _, _, hx⟩ := hrd
  simp only [Value.slice.injEq] at hv
  obtain ⟨rfl, _, rfl⟩ := hv
  obtain ⟨ad, rfl, hc⟩ := hx i x.ptr (by rw [List.getElem?_map, hi]; rfl)
  have hlt : i < r.length := (List.getElem?_eq_some_iff.1 hi).1
  unfold It.ptr at hc
  clear hx hi
  go_enter Tryz.func262, Tryz.ntmps262
  go_wp2_with fail
  go_quiet (fail)
  go_wp2
  go_ret
  exact ⟨rfl, _, rfl⟩

theorem zero_row (w : World) : (zeroValue 288).run Tryz.prog w = .ok (.slice none 0 0) w := by
  have h : (Tryz.prog.info? 288).map (·.zero) = some (some (.slice none 0 0)) := by kernel_rfl
  cases hi : Tryz.prog.info? 288 with
  | none => rw [hi] at h; simp at h
  | some i =>
    rw [hi] at h
    simp only [Option.map_some, Option.some.injEq] at h
    simp [zeroValue, run_typeInfo w hi, h, Sem.run_bind, Result.andThen]

theorem run_row {w : World} {b : Nat} {m : List (Kd × Value)} {k : Kd} {v : Value} (h : MapIs kenc w b m) (hv : (mapGet m k).getD (.slice none 0 0) = v) :
    (Instr.lookup 161 (.map (some b)) (kenc k) false).run Tryz.prog w = .ok v w := by
  have := run_map_lookup keyLaw_kind Tryz.underlying161 h k (.slice none 0 0) (zero_row w) false
  simp only [hv, Bool.false_eq_true, if_false] at this
  exact this

theorem boxed (w : World) (k1 : Int) (k2 k3 k4 : Bool) (bs : Int) : Fr (fun _ => False) w ((w.alloc (.cells #[.int .i64 k1, .bool k2, .bool k3, .bool k4] 165)).alloc (.cells #[.int .u64 bs] 22)) ∧
    ((w.alloc (.cells #[.int .i64 k1, .bool k2, .bool k3, .bool k4] 165)).alloc (.cells #[.int .u64 bs] 22)).cell? ⟨w.heap.size, 0, none⟩ = some (.int .i64 k1) ∧
    ((w.alloc (.cells #[.int .i64 k1, .bool k2, .bool k3, .bool k4] 165)).alloc (.cells #[.int .u64 bs] 22)).cell? ⟨w.heap.size, 1, none⟩ = some (.bool k2) ∧
    ((w.alloc (.cells #[.int .i64 k1, .bool k2, .bool k3, .bool k4] 165)).alloc (.cells #[.int .u64 bs] 22)).cell? ⟨w.heap.size, 2, none⟩ = some (.bool k3) ∧
    ((w.alloc (.cells #[.int .i64 k1, .bool k2, .bool k3, .bool k4] 165)).alloc (.cells #[.int .u64 bs] 22)).cell? ⟨w.heap.size, 3, none⟩ = some (.bool k4) ∧
    ((w.alloc (.cells #[.int .i64 k1, .bool k2, .bool k3, .bool k4] 165)).alloc (.cells #[.int .u64 bs] 22)).cell? ⟨w.heap.size + 1, 0, none⟩ = some (.int .u64 bs) ∧
    ((w.alloc (.cells #[.int .i64 k1, .bool k2, .bool k3, .bool k4] 165)).alloc (.cells #[.int .u64 bs] 22)).heap.size = w.heap.size + 2 := by
  obtain ⟨h0, h1, h2, h3⟩ := blk4 (w := (w.alloc (.cells #[.int .i64 k1, .bool k2, .bool k3, .bool k4] 165)).alloc (.cells #[.int .u64 bs] 22)) (b := w.heap.size) (by rw [heap_alloc, if_neg (by simp), heap_alloc, if_pos rfl])
  exact ⟨((Fr.refl _ w).alloc _).alloc _, h0, h1, h2, h3, cell_blk (c := #[.int .u64 bs]) (by rw [heap_alloc, if_pos (by simp)]) 0, by simp⟩


/-- is the base of the i-th of a row not below z? -/
def notBelow (r : List It) (z : Int) (i : Nat) : Bool := match r[i]? with
  | some x => decide (z ≤ x.base)
  | none => true

theorem searched {s m1 m2 m3 n : Nat} {i3 : List (Kd × Value)} {L : List It} {w wx : World} (fr : Fr (fun _ => False) w wx) (h : Core w s m1 m2 m3 i3 L) {k : Kd} {bs : Int} {r : List It} {a : Option Addr} {c : Nat}
    (hr : RowOf L k r) (ho : w.ownsRow 0 158 1 (.slice a n c) r.length (r.map It.ptr)) (zc : wx.cell? ⟨w.heap.size + 1, 0, none⟩ = some (.int .u64 bs)) (hsz : wx.heap.size = w.heap.size + 2) (hn : r.length ≤ 1000000) :
    Calls Tryz.prog 147 #[.int .i64 r.length, .func (.func 262) #[] #[.pointer (some ⟨w.heap.size + 2, 0, none⟩), .pointer (some ⟨w.heap.size + 1, 0, none⟩)]]
      (wx.alloc (.cells #[.slice a n c] 288)).drew fun e w' => ∃ (j q : Nat), e = .returned (.int .i64 j) ∧ w' = (wx.alloc (.cells #[.slice a n c] 288)).drew.drewN q ∧ j ≤ r.length ∧ (∀ i, i < j → notBelow r bs i = false) ∧ (∀ i, j ≤ i → i < r.length → notBelow r bs i = true) := by
  obtain ⟨a', c', hv⟩ := ownsRow_form ho
  simp only [Value.slice.injEq] at hv
  obtain ⟨rfl, rfl, rfl⟩ := hv
  have fz : Fr (fun _ => False) wx (wx.alloc (.cells #[.slice a r.length c] 288)).drew := ((Fr.refl _ wx).alloc _).drew
  have ff := fr.trans fz (fun _ _ x => x)
  refine search_any _ (fun args w => by simp [callFunc, Tryz.func262, Tryz.f262]) (by omega) (fun m i hi => ?_) (fun i j hij hj hi => ?_)
  · obtain ⟨x, hx⟩ : ∃ x, r[i]? = some x := ⟨_, List.getElem?_eq_getElem hi⟩
    have hm : x ∈ L := ((hr.mem x).1 (List.mem_of_getElem? hx)).1
    have := place_at (w.heap.size + 2) (w.heap.size + 1) i r a c bs x ((wx.alloc (.cells #[.slice a r.length c] 288)).drew.drewN m)
      (cell_blk (w := (wx.alloc (.cells #[.slice a r.length c] 288))) (c := #[.slice a r.length c]) (by rw [heap_alloc, if_pos hsz.symm]) 0) (cell_through (fz.drewN m) zc (fun x => x)) ((ownsRow_rd ho).fr (S := fun _ => False) (ff.drewN m) (fun _ _ x => x)) hx
      (cell_blk (w := (wx.alloc (.cells #[.slice a r.length c] 288))) (c := x.cells) (ff.at (h.node x hm) (fun x => x)) 1)
    refine this.mono fun e w' ⟨he, q, hq⟩ => ⟨?_, m + q, by rw [hq, World.drewN_drewN]⟩
    rw [he]; simp [notBelow, hx]
  · obtain ⟨x, hx⟩ : ∃ x, r[i]? = some x := ⟨_, List.getElem?_eq_getElem (by omega)⟩
    obtain ⟨y, hy⟩ : ∃ y, r[j]? = some y := ⟨_, List.getElem?_eq_getElem hj⟩
    simp only [notBelow, hx, hy, decide_eq_true_eq] at hi ⊢
    by_cases he : i = j
    · subst he; rw [hx] at hy; cases hy; exact hi
    · have h1 := List.pairwise_iff_getElem.1 hr.ord i j (by omega) hj (by omega)
      rw [(List.getElem?_eq_some_iff.1 hx).2, (List.getElem?_eq_some_iff.1 hy).2] at h1
      omega

set_option maxHeartbeats 2000000 in
theorem place_any {s m1 m2 m3 : Nat} {i3 : List (Kd × Value)} {L : List It} (w : World) (h : Core w s m1 m2 m3 i3 L) (k : Kd) (bs : Int) (r : List It) (a : Option Addr) (c : Nat)
    (hv : (mapGet i3 k).getD (.slice none 0 0) = .slice a r.length c) (hr : RowOf L k r) (ho : w.ownsRow 0 158 1 (.slice a r.length c) r.length (r.map It.ptr)) (hn : r.length ≤ 1000000) :
    Calls Tryz.prog 234 #[.pointer (some ⟨s, 0, none⟩), kenc k, .int .u64 bs] w fun e w' => e = .returned (.int .i64 (pos r bs)) ∧ Fr (fun _ => False) w w' := by
  obtain ⟨k1, k2, k3, k4⟩ := k
  have fb := Lib.hid (boxed w k1 k2 k3 k4 bs)
  have H := Lib.hid (And.intro h (And.intro hr (And.intro ho hv)))
  have hs := lt_blk h.root
  clear h hr ho hv
  unfold kenc at *
  go_enter Tryz.func234, Tryz.ntmps234
  go_wp2_with fail
  obtain ⟨fr, kc0, kc1, kc2, kc3, zc, hsz⟩ := fb.out
  generalize (w.alloc (.cells #[.int .i64 k1, .bool k2, .bool k3, .bool k4] 165)).alloc (.cells #[.int .u64 bs] 22) = wx at *
  clear fb
  have hkb : w.heap.size < wx.heap.size := by omega
  have hzb : w.heap.size + 1 < wx.heap.size := by omega
  have hsx : s < wx.heap.size := by omega
  have c3 : wx.cell? ⟨s, 2, none⟩ = some (.map (some m3)) := (blk3 (fr.at H.out.1.root (fun x => x))).2.2
  have fz : Fr (fun _ => False) wx (wx.alloc (.cells #[.slice none 0 0] 288)).drew := ((Fr.refl _ wx).alloc _).drew
  have look := run_row (k := (k1, k2, k3, k4)) ((H.out.1.sets.frk fr (fun x => x)).frk fz (fun x => x)) H.out.2.2.2
  have d0 : (wx.alloc (.cells #[.slice none 0 0] 288)).drew.cell? ⟨s, 2, none⟩ = some (.map (some m3)) := cell_through fz c3 (fun x => x)
  have d1 : (wx.alloc (.cells #[.slice none 0 0] 288)).drew.cell? ⟨w.heap.size, 0, none⟩ = some (.int .i64 k1) := cell_through fz kc0 (fun x => x)
  have d2 : (wx.alloc (.cells #[.slice none 0 0] 288)).drew.cell? ⟨w.heap.size, 1, none⟩ = some (.bool k2) := cell_through fz kc1 (fun x => x)
  have d3 : (wx.alloc (.cells #[.slice none 0 0] 288)).drew.cell? ⟨w.heap.size, 2, none⟩ = some (.bool k3) := cell_through fz kc2 (fun x => x)
  have d4 : (wx.alloc (.cells #[.slice none 0 0] 288)).drew.cell? ⟨w.heap.size, 3, none⟩ = some (.bool k4) := cell_through fz kc3 (fun x => x)
  have look1 := run_row (w := wx.drew) (k := (k1, k2, k3, k4)) (H.out.1.sets.frk fr.drew (fun x => x)) H.out.2.2.2
  unfold kenc at look look1
  simp only at look look1
  have FZ := Lib.hid fz
  clear fz
  have hsz := Lib.hid hsz
  have FR := Lib.hid fr
  clear fr
  have hse := Lib.hid (searched (n := r.length) FR.out H.out.1 H.out.2.1 H.out.2.2.1 zc hsz.out hn)
  clear hkb hzb
  go_wp2_with fail
  go_region
  all_goals (
    go_wp2_with (go_at_call 147; refine hse.out.mono ?_; rintro e w5 ⟨j, q, rfl, rfl, hj, hp1, hp2⟩)
    go_ret
    exact ⟨by rw [pos_of hj (fun i x hi hx => by have := hp1 i hi; simpa [notBelow, hx] using this) (fun i x hi hx => by have := hp2 i hi (List.getElem?_eq_some_iff.1 hx).1; simpa [notBelow, hx] using this)]; rfl, (FR.out.trans ((Fr.refl (fun _ => False) wx).alloc _) (fun _ _ x => x)).drewN (1 + q)⟩)
end Go.Proofs.YtnjaaagiindclaaGreatDoor

/-
  How many spans are swept, or not.
-/
namespace Go.Proofs.YtnjaaagiindclaaGreatDoor
open Go.RowKit Go.Deep

/-- those of some kinds, swept or not -/
def cnt (L : List It) (b : Bool) (D : List Kd) : Nat := (L.filter (fun x => decide (x.kd ∈ D) && (x.kd.2.2.2 == b))).length

theorem nodup_of {α β : Type} {f : α → β} {L : List α} (h : (L.map f).Nodup) : L.Nodup := by
  rw [List.Nodup, List.pairwise_map] at h
  exact h.imp (fun hxy e => hxy (by rw [e]))

theorem row_len {L : List It} {k : Kd} {r : List It} (h : RowOf L k r) (hL : (L.map (·.b)).Nodup) : r.length = (L.filter (fun x => decide (x.kd = k))).length := by
  have hLn : L.Nodup := nodup_of hL
  have hr : r.Nodup := h.ord.imp (fun {x y} hxy e => by subst e; omega)
  refine List.Perm.length_eq ((List.perm_ext_iff_of_nodup hr (hLn.sublist List.filter_sublist)).2 fun x => ?_)
  rw [h.mem]; simp

theorem cnt_nil (L : List It) (b : Bool) : cnt L b [] = 0 := by
  unfold cnt; rw [List.filter_eq_nil_iff.2 (fun x _ => by simp)]; rfl

theorem cnt_cons {L : List It} {b : Bool} {D : List Kd} {k : Kd} (hk : k ∉ D) : cnt L b (k :: D) = cnt L b D + (if k.2.2.2 = b then (L.filter (fun x => decide (x.kd = k))).length else 0) := by
  unfold cnt
  induction L with
  | nil => simp
  | cons x L ih =>
    by_cases hx : x.kd = k
    · have hn : x.kd ∉ D := by rw [hx]; exact hk
      by_cases hb : k.2.2.2 = b
      · simp only [hb, if_true] at ih ⊢
        rw [List.filter_cons_of_pos (by simp [hx, hb]), List.filter_cons_of_neg (by simp [hn]), List.filter_cons_of_pos (by simp [hx])]
        simp only [List.length_cons, ih]; omega
      · simp only [hb, if_false] at ih ⊢
        rw [List.filter_cons_of_neg (by simp [hx, hb]), List.filter_cons_of_neg (by simp [hn])]
        exact ih
    · by_cases hD : x.kd ∈ D ∧ x.kd.2.2.2 = b
      · rw [List.filter_cons_of_pos (by simp [hD.1, hD.2]), List.filter_cons_of_pos (by simp [hD.1, hD.2]), List.filter_cons_of_neg (by simpa using hx)]
        simp only [List.length_cons, ih]; omega
      · have h1 : ¬ ((decide (x.kd ∈ k :: D) && (x.kd.2.2.2 == b)) = true) := by simp only [Bool.and_eq_true, decide_eq_true_eq, List.mem_cons, beq_iff_eq]; exact fun ⟨h1, h2⟩ => h1.elim hx (fun h1 => hD ⟨h1, h2⟩)
        have h2 : ¬ ((decide (x.kd ∈ D) && (x.kd.2.2.2 == b)) = true) := by simpa using fun a b => hD ⟨a, b⟩
        rw [List.filter_cons_of_neg (p := fun x : It => decide (x.kd ∈ k :: D) && (x.kd.2.2.2 == b)) h1, List.filter_cons_of_neg (p := fun x : It => decide (x.kd ∈ D) && (x.kd.2.2.2 == b)) h2, List.filter_cons_of_neg (by simpa using hx)]
        exact ih

/-- how many there are -/
def num (L : List It) (b : Bool) : Nat := (L.filter (fun x => x.kd.2.2.2 == b)).length

theorem cnt_all {L : List It} {b : Bool} {D : List Kd} (h : ∀ x ∈ L, x.kd ∈ D) : cnt L b D = num L b := by
  unfold cnt num
  congr 1
  refine List.filter_congr fun x hx => ?_
  simp [h x hx]

theorem cnt_le (L : List It) (b : Bool) (D : List Kd) : cnt L b D ≤ L.length := List.length_filter_le _ _

theorem nodup_le {α : Type} [DecidableEq α] {D K : List α} (hD : D.Nodup) (hK : K.Nodup) (hs : ∀ p ∈ D, p ∈ K) : D.length ≤ K.length := by
  have h : D.Perm (K.filter (fun x => decide (x ∈ D))) := by
    rw [List.perm_ext_iff_of_nodup hD (hK.sublist List.filter_sublist)]
    intro a
    simp only [List.mem_filter, decide_eq_true_eq]
    exact ⟨fun ha => ⟨hs a ha, ha⟩, fun ha => ha.2⟩
  rw [h.length_eq]
  exact List.length_filter_le _ _

/-- where a walk over the kinds stands -/
structure Went (w : World) (s m1 m2 m3 it : Nat) (i3 : List (Kd × Value)) (L : List It) (w0 : World) (D : List Kd) (k : Nat) : Prop where
  iter : Iter kenc w it m3 i3 D
  nd : D.Nodup
  sub : ∀ p ∈ D, p ∈ i3.map (·.1)
  len : D.length + k = i3.length
  fr : Fr (fun _ => False) w0 w

theorem Went.step {w w' : World} {s m1 m2 m3 it : Nat} {i3 : List (Kd × Value)} {L : List It} {w0 : World} {D : List Kd} {k : Nat} {p : Kd × Value} (h : Went w s m1 m2 m3 it i3 L w0 D k) (hit : w0.heap.size ≤ it) (hp : p ∈ i3) (hn : p.1 ∉ D)
    (hi : Iter kenc w' it m3 i3 (p.1 :: D)) (hf : Fr (fun b => b = it) w w') : Went w' s m1 m2 m3 it i3 L w0 (p.1 :: D) (k - 1) ∧ 1 ≤ k := by
  have nd := List.nodup_cons.2 ⟨hn, h.nd⟩
  have sub : ∀ q ∈ p.1 :: D, q ∈ i3.map (·.1) := by
    intro q hq
    rcases List.mem_cons.1 hq with rfl | hq
    · exact List.mem_map.2 ⟨p, hp, rfl⟩
    · exact h.sub q hq
  have hl := nodup_le nd h.iter.map.nodup sub
  have := h.len
  simp only [List.length_cons, List.length_map] at hl
  exact ⟨⟨hi, nd, sub, by simp only [List.length_cons]; omega, h.fr.trans hf (fun b hb he => by omega)⟩, by omega⟩

theorem Went.fr' {w w' : World} {s m1 m2 m3 it : Nat} {i3 : List (Kd × Value)} {L : List It} {w0 : World} {D : List Kd} {k : Nat} (h : Went w s m1 m2 m3 it i3 L w0 D k) (hf : Fr (fun _ => False) w w') : Went w' s m1 m2 m3 it i3 L w0 D k :=
  ⟨h.iter.fr hf (fun x => x) (fun x => x), h.nd, h.sub, h.len, h.fr.trans hf (fun _ _ x => x)⟩

set_option maxRecDepth 100000 in
set_option maxHeartbeats 4000000 in
theorem count_any {s m1 m2 m3 : Nat} {i3 : List (Kd × Value)} {L : List It} (w : World) (h : Core w s m1 m2 m3 i3 L) (b : Bool) (hL : L.length ≤ 1000000) :
    Calls Tryz.prog 129 #[.pointer (some ⟨s, 0, none⟩), .bool b] w fun e w' => e = .returned (.int .i64 (num L b)) ∧ Fr (fun _ => False) w w' := by
  have c3 := (blk3 h.root).2.2
  have hlt := h.sets.lt
  have hm := Lib.hid h.sets
  have H := Lib.hid h
  clear h
  go_enter Tryz.func129, Tryz.ntmps129
  go_wp2_with (refine wpList_iter_new (by rfl) Tryz.underlying161 _ (by rfl) hm.out (by rfl) ?_; intro oo hit; go_simp)
  have hne : w.heap.size ≠ m3 := by omega
  have hlt := Lib.hid hlt
  go_loopg [5] i3.length (fun k n wr => ∃ (c : Nat) (D : List Kd), n = .int .i64 c ∧ Hid (c = cnt L b D ∧ Went wr s m1 m2 m3 w.heap.size i3 L w D k))
  case atStart => exact ⟨0, [], rfl, Lib.hid ⟨(cnt_nil L b).symm, hit, by simp, by simp, by simp, (Fr.refl _ w).alloc oo⟩⟩
  case round =>
    obtain ⟨cc, D, rfl, hD⟩ := hrel
    clear hit
    rcases run_iter_next (P := Tryz.prog) hD.out.2.iter hne 0 with ⟨hall, hr⟩ | ⟨⟨⟨pk1, pk2, pk3, pk4⟩, pv⟩, hp, hpd, wn, hr, hk1, hk2, hk3⟩
    · have hc : cc = num L b := by
        rw [hD.out.1]
        exact cnt_all (fun x hx => by obtain ⟨p, hp, he⟩ := List.mem_map.1 (H.out.all x hx); rw [← he]; exact hall p hp)
      subst hc
      have F := Lib.hid hD.out.2.fr
      clear hall hD
      go_wp2_with (refine wpList_next_run (by rfl) _ (by rfl) (by rfl) hr ?_; clear hr)
      go_ret
      exact ⟨rfl, F.out⟩
    · obtain ⟨r, hro, how⟩ := H.out.row _ _ hp
      obtain ⟨ra, rc, rfl⟩ := ownsRow_form how
      have hst := Lib.hid (hD.out.2.step (Nat.le_refl _) hp hpd hk1 hk2)
      have hcn := cnt_cons (L := L) (b := b) hpd
      rw [← row_len hro H.out.ndb] at hcn
      have hcl := cnt_le L b ((pk1, pk2, pk3, pk4) :: D)
      simp only at hcn
      have hrl : r.length ≤ 1000000 := Nat.le_trans (by rw [row_len hro H.out.ndb]; exact List.length_filter_le _ _) hL
      have HC := Lib.hid hcn
      clear hp hpd hk1 hk2 hro how hcn
      simp only [kenc] at hr hk3
      by_cases hb : pk4 = b
      · subst hb
        have hcl2 : cc ≤ 1000000 := by rw [hD.out.1]; exact Nat.le_trans (cnt_le _ _ _) hL
        go_wp2_with (first | (refine wpList_next_run (by rfl) _ (by rfl) (by rfl) hr ?_; clear hr) | (refine wpList_entry (by rfl) _ (by rfl) (by rfl) hk3 ?_; clear hk3))
        go_roundg (gk - 1)
        case measure => have := hst.out.2; omega
        case rel =>
          exact ⟨cc + r.length, (pk1, pk2, pk3, pk4) :: D, by go_num, Lib.hid ⟨by rw [HC.out, hD.out.1]; simp, hst.out.1.fr' ((Fr.refl _ wn).alloc _)⟩⟩
      · have hb2 : (pk4 == b) = false := by simpa using hb
        go_wp2_with (first | (refine wpList_next_run (by rfl) _ (by rfl) (by rfl) hr ?_; clear hr) | (refine wpList_entry (by rfl) _ (by rfl) (by rfl) hk3 ?_; clear hk3))
        go_roundg (gk - 1)
        case measure => have := hst.out.2; omega
        case rel =>
          exact ⟨cc, (pk1, pk2, pk3, pk4) :: D, rfl, Lib.hid ⟨by rw [HC.out, hD.out.1, if_neg hb]; simp, hst.out.1.fr' ((Fr.refl _ wn).alloc _)⟩⟩
end Go.Proofs.YtnjaaagiindclaaGreatDoor
