/-
  Part 9 of what the statement leans on: SxF, Sx15, SxX, SxS, WBase.
-/
import Derived.Test.YtnjaaagiindclaaGreatDoorPk7
import Derived.Test.YtnjaaagiindclaaGreatDoorPk8
import Derived.Laws.Externs
/-
  SX: the same trees, got faster: what hangs on the program alone is got once. No program in sight.
-/
namespace Go.Proofs.YtnjaaagiindclaaGreatDoor
open Go.RowKit Go.Deep
namespace SX

/-! rows of operations -/
noncomputable def goF (go : Bool) (f : OpF) (o : Oper) (E : Env) (st : St) (k : St → Tree) (kp : SV → St → Tree) : Tree := Bool.rec (motive := fun _ => Tree) (k (skipO o st)) (f.f E st k kp) go
theorem goF_eq (go : Bool) (o : Oper) (E : Env) (st : St) (k : St → Tree) (kp : SV → St → Tree) : goF go (opF o) o E st k kp = exO E go o st k kp := by
  cases go with
  | false => rfl
  | true => exact opF_eq o E st k kp
noncomputable def gdS (s : Nat) (want : Bool) (f : OpF) (o : Oper) (E : Env) (st : St) (v : SV) (k : St → Tree) (kp : SV → St → Tree) : Tree := match v with
  | .tt => goF want f o E st k kp
  | .ff => goF (!want) f o E st k kp
  | .none_ => k (skipO o st)
  | .b c => .split c (goF want f o E { st with tm := sset st.tm s .tt } k kp) (goF (!want) f o E { st with tm := sset st.tm s .ff } k kp)
  | _ => .fail 231
noncomputable def gdF (ops : List Oper) (o : Oper) : OpF := match o.guard with
  | none => opF o
  | some (j, want) => (match gslot ops j with
    | none => ⟨fun _ _ _ _ => .fail 230⟩
    | some s => ⟨fun E st k kp => gdS s want (opF o) o E st ((acc s).g st.tm) k kp⟩)
noncomputable def chF (ops : List Oper) (l : List Oper) : OpF :=
  List.rec (motive := fun _ => OpF) ⟨fun _ st k _ => k st⟩ (fun o _ ih => ⟨fun E st k kp => (gdF ops o).f E st (fun st => ih.f E st k kp) kp⟩) l
theorem chF_eq (ops : List Oper) (E : Env) (k : St → Tree) (kp : SV → St → Tree) : ∀ (l : List Oper) (st : St), (chF ops l).f E st k kp = exL E ops l st k kp
  | [], st => rfl
  | o :: l, st => by
    show (gdF ops o).f E st (fun st => (chF ops l).f E st k kp) kp = _
    have e : (fun st => (chF ops l).f E st k kp) = fun st => exL E ops l st k kp := funext fun st => chF_eq ops E k kp l st
    rw [e]
    unfold gdF
    simp only [exL]
    split
    next h => rw [h]; exact opF_eq _ _ _ _ _
    next j want h =>
      rw [h]
      simp only
      cases gslot ops j with
      | none => rfl
      | some s =>
        simp only [gdS, goF_eq]
        rfl

/-! code -/
structure CodeF where
  f : Env → Nat → Kont → St → Tree
noncomputable def condF (v : SV) (a b : Tree) : Tree := match v with
  | .tt => a
  | .ff => b
  | .b x => .split x a b
  | _ => .fail 240
noncomputable def loopF (ws : List Nat) (body : CodeF) (E : Env) (lb : Nat) (K : Kont) (st : St) : Tree := match E.inv lb with
    | some Iv => noD st (if subN ws Iv.sl then
        .need (Enter Iv st) (.all Iv.p fun x => body.f E lb (kn (fun st' => noD st' (.need (Back Iv st x st') .stop)) K) (headS Iv ws st x))
      else .fail 241)
    | none => rounds (fun K st => body.f E lb K st) K E.fuel st
noncomputable def codeF (c : Code) : CodeF :=
  Code.rec (motive := fun _ => CodeF)
    ⟨fun _ _ K st => K .n st⟩
    (fun _ ops dr => Bool.rec (motive := fun _ => CodeF) ⟨fun E _ K st => (chF ops.toList ops.toList).f E st (K .n) (fun v => K (.p v))⟩ ⟨fun E _ K st => exR E ops.toList st (K .n)⟩ dr)
    (fun _ _ ia ib => ⟨fun E lb K st => ia.f E lb (kn (fun st => ib.f E lb K st) K) st⟩)
    (fun c _ _ ia ib => ⟨fun E lb K st => condF ((srcF c).f st.tm) (ia.f E lb K st) (ib.f E lb K st)⟩)
    (fun i _ ic => ⟨fun E _ K st => ic.f E i (kb i K) st⟩)
    (fun c ic => ⟨fun E lb K st => loopF (wr c) ic E lb K st⟩)
    (fun _ _ _ _ _ _ => ⟨fun _ _ _ _ => .fail 244⟩)
    (fun i => ⟨fun _ _ K st => K (.x i) st⟩)
    (fun _ ic => ⟨fun E lb K st => ic.f E lb K st⟩)
    (fun _ => ⟨fun _ _ K st => K .n st⟩)
    (fun _ => ⟨fun _ _ _ _ => .fail 244⟩)
    ⟨fun _ _ K st => K .r st⟩
    (fun _ => ⟨fun _ _ _ _ => .fail 244⟩) c
theorem codeF_eq (E : Env) : ∀ (c : Code) (lb : Nat) (K : Kont) (st : St), (codeF c).f E lb K st = exC E c lb K st := by
  intro c
  induction c with
  | seq a b iha ihb =>
    intro lb K st
    show (codeF a).f E lb (kn (fun st => (codeF b).f E lb K st) K) st = _
    rw [iha]
    simp only [exC]
    rw [show (fun st => (codeF b).f E lb K st) = fun st => exC E b lb K st from funext fun st => ihb lb K st]
  | cond c a b iha ihb =>
    intro lb K st
    show condF ((srcF c).f st.tm) ((codeF a).f E lb K st) ((codeF b).f E lb K st) = _
    rw [iha, ihb, srcF_eq]
    rfl
  | block i c ih =>
    intro lb K st
    show (codeF c).f E i (kb i K) st = _
    rw [ih]; rfl
  | scope c ih =>
    intro lb K st
    show (codeF c).f E lb K st = _
    rw [ih]; rfl
  | loop c ih =>
    intro lb K st
    show loopF (wr c) (codeF c) E lb K st = _
    unfold loopF
    simp only [exC]
    rw [show (codeF c).f E lb = fun K st => exC E c lb K st from funext fun K => funext fun st => ih lb K st]
    all_goals (cases E.inv lb <;> rfl)
  | region i ops dr =>
    intro lb K st
    cases dr with
    | true => rfl
    | false =>
      show (chF ops.toList ops.toList).f E st (K .n) (fun v => K (.p v)) = _
      rw [chF_eq]; rfl
  | _ => intros; rfl

/-! functions -/
noncomputable def fnF (E : Env) (ds : FuncId → Option DSpec) (fn : Func) (c : Code) : Spec := fun args h n K => (codeF c).f E 0 (finK E.ty ds fn K) ⟨fr0 fn args, h, n, []⟩
theorem fnF_eq (E : Env) (ds : FuncId → Option DSpec) (fn : Func) (c : Code) : fnF E ds fn c = fnT E ds fn c := by
  funext args h n K
  exact codeF_eq E c 0 _ _
end SX
end Go.Proofs.YtnjaaagiindclaaGreatDoor

/-
  SX: contracts from trees; calls put in line. No program in sight.
-/
namespace Go.Proofs.YtnjaaagiindclaaGreatDoor
open Go.RowKit Go.Deep
namespace SX

/-- what is known of a number, a truth or a string, forgotten -/
def soft : SV → SV
  | .l k n => .i k n
  | .tt => .b true
  | .ff => .b false
  | .t l => .s (bytesOf l)
  | v => v
theorem soft_rel {ρ : Ren} {x : SV} {v : Value} (h : x.Rel ρ v) : (soft x).Rel ρ v := by
  cases x <;> simp only [soft, SV.Rel] at h ⊢ <;> exact h
theorem softL_rel {ρ : Ren} : ∀ {l : List SV} {vs : List Value}, RelL ρ l vs → RelL ρ (l.map soft) vs
  | [], _, h => h
  | x :: l, vs, h => by
    simp only [RelL] at h
    obtain ⟨v, q, rfl, h1, h2⟩ := h
    exact .cons (soft_rel h1) (softL_rel h2)
noncomputable def Spec.soft (sp : Spec) : Spec := fun args h n K => sp (args.map SX.soft) h n K
theorem SpecOk.soft {P : Program} {𝔅 : BigRep} {f : FuncId} {sp : Spec} (h : SpecOk P 𝔅 f sp) : SpecOk P 𝔅 f sp.soft :=
  Or.imp (fun h => ⟨h.enter, fun C Q _ hp n K hB hk ρ w vs hv hH hbd => h.calls C Q _ hp n K hB hk ρ w vs (softL_rel hv) hH hbd⟩) (fun h Q _ hp n K hk ρ w vs hv => h Q _ hp n K hk ρ w vs (softL_rel hv)) h

/-- contracts in a list -/
def specAt : List (FuncId × Spec) → FuncId → Option Spec
  | [], _ => none
  | x :: l, f => if Nat.beq x.1 f then some x.2 else specAt l f
theorem specAt_ok {P : Program} {𝔅 : BigRep} : ∀ {l : List (FuncId × Spec)}, (∀ x ∈ l, SpecOk P 𝔅 x.1 x.2) → ∀ f sp, specAt l f = some sp → SpecOk P 𝔅 f sp
  | [], _, _, _, h => by cases h
  | x :: l, hl, f, sp, h => by
    simp only [specAt] at h
    split at h
    next e =>
      have := Nat.eq_of_beq_eq_true e
      simp only [Option.some.injEq] at h
      subst this h
      exact hl x (by simp)
    next => exact specAt_ok (fun y hy => hl y (by simp [hy])) f sp h
def bodyOf (f : Func) : Code := match f.body with | some c => c | none => .skip

theorem spec_fnF {P : Program} {E : Env} {𝔅 : BigRep} (hE : EnvOk P 𝔅 E) {ds : FuncId → Option DSpec} (hds : ∀ f sp, ds f = some sp → DSpecOk P 𝔅 f sp) {f : FuncId} {fn : Func} {c : Code} (hf : P.funcs[f]? = some fn) (hb : fn.body = some c) (hname : (fn.name == "runtime.NumGoroutine") = false) :
    SpecOk P 𝔅 f (fnF E ds fn c) := by rw [fnF_eq]; exact spec_fn hE hds hf hb hname

/-! calls in line -/
/-- how a function is gone through -/
structure Cfg where
  inv : Nat → Option Inv := fun _ => none
  wr : Bool := false
  fuel : Nat := 0
/-- what all is gone through with: types, functions, contracts, ways -/
structure All where
  ty : TypeId → Option TI
  fn : FuncId → Option Func
  tbl : FuncId → Option Spec
  cfg : FuncId → Cfg
noncomputable def All.env (A : All) (sp : FuncId → Option Spec) (c : Cfg) : Env := { ty := A.ty, rk := fun _ => none, spec := sp, inv := c.inv, wr := c.wr, fuel := c.fuel }
noncomputable def All.dsp (A : All) (sp : FuncId → Option Spec) (f : FuncId) : Option DSpec := match A.fn f with
  | some fn => (match fn.body with
    | some c => some (fnD (A.env sp (A.cfg f)) fn c)
    | none => none)
  | none => none
noncomputable def All.inl (A : All) : Nat → FuncId → Option Spec :=
  Nat.rec (motive := fun _ => FuncId → Option Spec) A.tbl fun _ ih f => match A.tbl f with
    | some sp => some sp
    | none => (match A.fn f with
      | some fn => (match fn.body with
        | some c => some (fnF (A.env ih (A.cfg f)) (A.dsp ih) fn c)
        | none => none)
      | none => none)
structure AllOk (P : Program) (𝔅 : BigRep) (A : All) : Prop where
  ty : ∀ t i, A.ty t = some i → tiOf P t = some i
  fn : ∀ f fn, A.fn f = some fn → P.funcs[f]? = some fn ∧ (fn.name == "runtime.NumGoroutine") = false
  tbl : ∀ f sp, A.tbl f = some sp → SpecOk P 𝔅 f sp
  mx : P.follows .mixedOrders = true
theorem AllOk.env {P : Program} {𝔅 : BigRep} {A : All} (h : AllOk P 𝔅 A) {sp : FuncId → Option Spec} (hs : ∀ f s, sp f = some s → SpecOk P 𝔅 f s) (c : Cfg) : EnvOk P 𝔅 (A.env sp c) := ⟨h.ty, hs, h.mx⟩
theorem AllOk.dsp {P : Program} {𝔅 : BigRep} {A : All} (h : AllOk P 𝔅 A) {sp : FuncId → Option Spec} (hs : ∀ f s, sp f = some s → SpecOk P 𝔅 f s) : ∀ f d, A.dsp sp f = some d → DSpecOk P 𝔅 f d := by
  intro f d hd
  unfold All.dsp at hd
  split at hd
  next fn hf =>
    split at hd
    next c hc =>
      simp only [Option.some.injEq] at hd
      subst hd
      exact dspec_fn (h.env hs _) (h.fn _ _ hf).1 hc (h.fn _ _ hf).2
    · cases hd
  · cases hd
theorem AllOk.inl {P : Program} {𝔅 : BigRep} {A : All} (h : AllOk P 𝔅 A) : ∀ n f s, A.inl n f = some s → SpecOk P 𝔅 f s
  | 0, f, s, hs => h.tbl f s hs
  | n + 1, f, s, hs => by
    have e : A.inl (n + 1) f = (match A.tbl f with
      | some sp => some sp
      | none => (match A.fn f with
        | some fn => (match fn.body with
          | some c => some (fnF (A.env (A.inl n) (A.cfg f)) (A.dsp (A.inl n)) fn c)
          | none => none)
        | none => none)) := rfl
    rw [e] at hs
    split at hs
    next sp hsp =>
      simp only [Option.some.injEq] at hs
      subst hs
      exact h.tbl _ _ hsp
    next =>
      split at hs
      next fn hf =>
        split at hs
        next c hc =>
          simp only [Option.some.injEq] at hs
          subst hs
          exact spec_fnF (h.env (h.inl n) _) (h.dsp (h.inl n)) (h.fn _ _ hf).1 hc (h.fn _ _ hf).2
        · cases hs
      · cases hs
/-- a function's own tree -/
noncomputable def All.tree (A : All) (n : Nat) (f : FuncId) (fn : Func) (c : Code) : Spec := fnF (A.env (A.inl n) (A.cfg f)) (A.dsp (A.inl n)) fn c
theorem AllOk.tree {P : Program} {𝔅 : BigRep} {A : All} (h : AllOk P 𝔅 A) {n : Nat} {f : FuncId} {fn : Func} {c : Code} (hf : A.fn f = some fn) (hc : fn.body = some c) : SpecOk P 𝔅 f (A.tree n f fn c) :=
  spec_fnF (h.env (h.inl n) _) (h.dsp (h.inl n)) (h.fn _ _ hf).1 hc (h.fn _ _ hf).2

/-! trees in which all is known -/
/-- a tree without needs, whose leaves pass -/
noncomputable def Tree.sure (ok : Ex → St → Bool) : Tree → Bool
  | .done e st => ok e st
  | .both a b => a.sure ok && b.sure ok
  | .stop => true
  | _ => false
theorem Tree.sure_den {ok : Ex → St → Bool} {Q : Ex → St → Prop} (h : ∀ e st, ok e st = true → Q e st) : ∀ {T : Tree}, T.sure ok = true → T.den Q
  | .done e st, hs => h e st hs
  | .both a b, hs => by
    simp only [Tree.sure, Bool.and_eq_true] at hs
    exact ⟨sure_den h hs.1, sure_den h hs.2⟩
  | .stop, _ => trivial
  | .need _ _, hs => by cases hs
  | .split _ _ _, hs => by cases hs
  | .all _ _, hs => by cases hs
  | .fail _, hs => by cases hs
end SX
end Go.Proofs.YtnjaaagiindclaaGreatDoor

/-
  SX: functions that the model stands in for.
-/
namespace Go.Proofs.YtnjaaagiindclaaGreatDoor
open Go.RowKit Go.Deep
namespace SX

def spAdd : Spec := fun args h n K => match args with
  | [x, y, c] => (match x with
    | .l kx a => (match y with
      | .l ky b => (match c with
        | .l kc d => (match a with
          | .ofNat a => (match b with
            | .ofNat b => (match d with
              | .ofNat d => if isK kx .u64 && isK ky .u64 && isK kc .u64 && Nat.ble d 1 then K true (.tup [.l .u64 (.ofNat (Nat.mod (Nat.add (Nat.add a b) d) 18446744073709551616)), .l .u64 (.ofNat (Nat.div (Nat.add (Nat.add a b) d) 18446744073709551616))]) h n else .fail 600
              | _ => .fail 601)
            | _ => .fail 601)
          | _ => .fail 601)
        | _ => .fail 602)
      | _ => .fail 602)
    | _ => .fail 602)
  | _ => .fail 603
def spFrom : Spec := fun args h n K => match args with
  | [x] => (match x with
    | .l k a => (match a with
      | .ofNat a => if isK k .u64 then K true (.f .f64 a) h n else .fail 604
      | _ => .fail 605)
    | _ => .fail 606)
  | _ => .fail 607
def spBits : Spec := fun args h n K => match args with
  | [x] => (match x with
    | .f k a => if sameF k .f64 then K true (.l .u64 (.ofNat a)) h n else .fail 608
    | _ => .fail 609)
  | _ => .fail 610

theorem RelL.one {ρ : Ren} {x : SV} {vs : List Value} (h : RelL ρ [x] vs) : ∃ v, vs = [v] ∧ x.Rel ρ v := by
  simp only [RelL] at h
  obtain ⟨v, r, rfl, h, rfl⟩ := h
  exact ⟨v, rfl, h⟩
theorem RelL.three {ρ : Ren} {x y z : SV} {vs : List Value} (h : RelL ρ [x, y, z] vs) : ∃ a b c, vs = [a, b, c] ∧ x.Rel ρ a ∧ y.Rel ρ b ∧ z.Rel ρ c := by
  simp only [RelL] at h
  obtain ⟨a, r, rfl, h1, b, r', rfl, h2, c, r'', rfl, h3, rfl⟩ := h
  exact ⟨a, b, c, rfl, h1, h2, h3⟩
section
variable {P : Program} {𝔅 : BigRep} {f : FuncId} {fn : Func}
theorem spAdd_ok (hf : P.funcs[f]? = some fn) (hname : (fn.name == "runtime.NumGoroutine") = false) (hb : fn.body.isNone = true) (hn : Extern.findNext fn = none) (he : Extern.find fn = some add64Entry) : SpecOk P 𝔅 f spAdd := by
  refine .inr fun Q args h n K hk ρ w vs hv => ?_
  unfold spAdd at hk
  split at hk
  next x y c =>
    split at hk
    next kx a =>
      split at hk
      next ky b =>
        split at hk
        next kc d =>
          split at hk
          next a =>
            split at hk
            next b =>
              split at hk
              next d =>
                split at hk
                next hc =>
                  simp only [Bool.and_eq_true] at hc
                  obtain ⟨⟨⟨h1, h2⟩, h3⟩, h4⟩ := hc
                  have := isK_eq h1
                  have := isK_eq h2
                  have := isK_eq h3
                  have h4 := Nat.le_of_ble_eq_true h4
                  subst kx ky kc
                  obtain ⟨p, q, r, hvs, hp, hq, hr⟩ := hv.three
                  simp only [SV.Rel] at hp hq hr
                  have hvs' : vs = #[.int .u64 (Int.ofNat a), .int .u64 (Int.ofNat b), .int .u64 (Int.ofNat d)] := by
                    rw [← Array.toList_inj, hvs, hp, hq, hr]
                  refine ⟨.tuple #[.int .u64 (Int.ofNat ((a + b + d) % 18446744073709551616)), .int .u64 (Int.ofNat ((a + b + d) / 18446744073709551616))], _, ?_, ?_, hk⟩
                  · rw [hvs', run_callFunc_extern hf hname hb hn he]
                    have := run_add64 (P := P) (Int.ofNat a) (Int.ofNat b) (Int.ofNat d) (by simp) (by simp) (by simp) (by simp only [Int.ofNat_eq_natCast]; omega) w
                    rw [this]
                    simp only [Result.andThen, Int.ofNat_eq_natCast]
                    congr 5 <;> omega
                  · simp only [SV.Rel]
                    exact ⟨_, rfl, .cons (by simp only [SV.Rel]; rfl) (.cons (by simp only [SV.Rel]; rfl) .nil)⟩
                · exact hk.elim
              · exact hk.elim
            · exact hk.elim
          · exact hk.elim
        · exact hk.elim
      · exact hk.elim
    · exact hk.elim
  · exact hk.elim
theorem spFrom_ok (hf : P.funcs[f]? = some fn) (hname : (fn.name == "runtime.NumGoroutine") = false) (hb : fn.body.isNone = true) (hn : Extern.findNext fn = none) (he : Extern.find fn = some Extern.MathFloatBits.float64frombits) : SpecOk P 𝔅 f spFrom := by
  refine .inr fun Q args h n K hk ρ w vs hv => ?_
  unfold spFrom at hk
  split at hk
  next x =>
    split at hk
    next k a =>
      split at hk
      next a =>
        split at hk
        next hc =>
          have := isK_eq hc
          subst k
          obtain ⟨p, hvs, hp⟩ := hv.one
          simp only [SV.Rel] at hp
          have hvs' : vs = #[.int .u64 (Int.ofNat a)] := by rw [← Array.toList_inj, hvs, hp]
          refine ⟨.float .f64 a, _, ?_, ?_, hk⟩
          · rw [hvs', run_callFunc_extern hf hname hb hn he]
            rw [show (Extern.MathFloatBits.float64frombits #[.int .u64 (Int.ofNat a)]).run P w = .ok (.float .f64 a) w from rfl]; rfl
          · simp only [SV.Rel]
        · exact hk.elim
      · exact hk.elim
    · exact hk.elim
  · exact hk.elim
theorem spBits_ok (hf : P.funcs[f]? = some fn) (hname : (fn.name == "runtime.NumGoroutine") = false) (hb : fn.body.isNone = true) (hn : Extern.findNext fn = none) (he : Extern.find fn = some Extern.MathFloatBits.float64bits) : SpecOk P 𝔅 f spBits := by
  refine .inr fun Q args h n K hk ρ w vs hv => ?_
  unfold spBits at hk
  split at hk
  next x =>
    split at hk
    next k a =>
      split at hk
      next hc =>
        have := sameF_eq hc
        subst k
        obtain ⟨p, hvs, hp⟩ := hv.one
        simp only [SV.Rel] at hp
        have hvs' : vs = #[.float .f64 a] := by rw [← Array.toList_inj, hvs, hp]
        refine ⟨.int .u64 (Int.ofNat a), _, ?_, ?_, hk⟩
        · rw [hvs', run_callFunc_extern hf hname hb hn he]
          rw [show (Extern.MathFloatBits.float64bits #[.float .f64 a]).run P w = .ok (.int .u64 (Int.ofNat a)) w from rfl]; rfl
        · simp only [SV.Rel]
      · exact hk.elim
    · exact hk.elim
  · exact hk.elim
end
end SX
end Go.Proofs.YtnjaaagiindclaaGreatDoor

/-
  SX: a call that needs nothing of memory, run once, holds in every memory: names are moved. No program in sight.
-/
namespace Go.Proofs.YtnjaaagiindclaaGreatDoor
open Go.RowKit Go.Deep
namespace SX

def Cap.sh (k : Nat) : Cap → Cap
  | .o i m => .o (Nat.add i k) m
  | .c n => .c n
  | .v n => .v n
  | .zr => .zr
mutual
def SV.sh (k : Nat) : SV → SV
  | .p b o => .p (Nat.add b k) o
  | .sl lit b sz f n c => .sl lit (Nat.add b k) sz f n (c.sh k)
  | .m b => .m (Nat.add b k)
  | .nu b => .nu (Nat.add b k)
  | .fn f cap => .fn f (shL k cap)
  | .ifc t v => .ifc t (SV.sh k v)
  | .agg l => .agg (shL k l)
  | .tup l => .tup (shL k l)
  | x => x
def shL (k : Nat) : List SV → List SV
  | [] => []
  | x :: l => SV.sh k x :: shL k l
end
theorem Cap.sh_is {ρ ρ' : Ren} {k : Nat} (h : ∀ b, ρ' (b + k) = ρ b) {c : Cap} {z : Nat} (r : c.Is ρ z) : (c.sh k).Is ρ' z := by
  cases c with
  | c n => exact r
  | v n => exact r
  | o i m => obtain ⟨y, e, r⟩ := r; exact ⟨y, (h i).trans e, r⟩
  | zr => exact r
theorem Cap.sh_zz {k : Nat} {c : Cap} (h : (c.sh k).zz) : c.zz := by cases c <;> exact h
theorem Cap.sh_has {k : Nat} {c : Cap} (h : (c.sh k).hasB) : c.hasB := by cases c <;> exact h
mutual
theorem SV.sh_rel {ρ ρ' : Ren} {k : Nat} (h : ∀ b, ρ' (b + k) = ρ b) : ∀ (x : SV) (v : Value), x.Rel ρ v → (x.sh k).Rel ρ' v
  | .tt, _, r | .ff, _, r | .b _, _, r | .l _ _, _, r | .i _ _, _, r | .f _ _, _, r | .s _, _, r | .t _, _, r | .rp _ _, _, r | .np, _, r | .ns, _, r | .nm, _, r | .nf, _, r | .ni, _, r | .v _, _, r | .none_, _, r => by
    simp only [SV.sh, SV.Rel] at r ⊢; exact r
  | .p b o, v, r => by
    simp only [SV.sh, SV.Rel] at r ⊢
    obtain ⟨g, e, r⟩ := r
    exact ⟨g, (h b).trans e, r⟩
  | .sl lit b sz frm len cap, v, r => by
    simp only [SV.sh, SV.Rel] at r ⊢
    obtain ⟨a, c, e, hi, hl, r⟩ := r
    exact ⟨a, c, e, Cap.sh_is h hi, hl, fun hc => by obtain ⟨g, e, r⟩ := r (Cap.sh_has hc); exact ⟨g, (h b).trans e, fun hz => r (hz.imp id Cap.sh_zz)⟩⟩
  | .m b, v, r => by
    simp only [SV.sh, SV.Rel] at r ⊢
    obtain ⟨g, e, r⟩ := r
    exact ⟨g, (h b).trans e, r⟩
  | .nu b, v, r => by
    simp only [SV.sh, SV.Rel] at r ⊢
    obtain ⟨g, e, r⟩ := r
    exact ⟨g, (h b).trans e, r⟩
  | .fn f cap, v, r => by
    simp only [SV.sh, SV.Rel] at r ⊢
    obtain ⟨cs, e, r⟩ := r
    exact ⟨cs, e, shL_rel h cap cs.toList r⟩
  | .ifc t x, v, r => by
    simp only [SV.sh, SV.Rel] at r ⊢
    obtain ⟨y, e, r⟩ := r
    exact ⟨y, e, SV.sh_rel h x y r⟩
  | .agg l, v, r => by
    simp only [SV.sh, SV.Rel] at r ⊢
    obtain ⟨cs, e, r⟩ := r
    exact ⟨cs, e, shL_rel h l cs.toList r⟩
  | .tup l, v, r => by
    simp only [SV.sh, SV.Rel] at r ⊢
    obtain ⟨cs, e, r⟩ := r
    exact ⟨cs, e, shL_rel h l cs.toList r⟩
  | .junk, _, _ => by simp only [SV.sh, SV.Rel]
theorem shL_rel {ρ ρ' : Ren} {k : Nat} (h : ∀ b, ρ' (b + k) = ρ b) : ∀ (l : List SV) (vs : List Value), RelL ρ l vs → RelL ρ' (shL k l) vs
  | [], vs, r => by simp only [shL, RelL] at r ⊢; exact r
  | x :: l, vs, r => by
    simp only [shL, RelL] at r ⊢
    obtain ⟨v, q, e, r1, r2⟩ := r
    exact ⟨v, q, e, SV.sh_rel h x v r1, shL_rel h l q r2⟩
end
def shE {κ : Type} (k : Nat) : List (κ × SV) → List (κ × SV)
  | [] => []
  | e :: l => (e.1, e.2.sh k) :: shE k l
theorem MR.sh {κ : Type} {ρ ρ' : Ren} {k : Nat} (h : ∀ b, ρ' (b + k) = ρ b) : ∀ {es : List (κ × SV)} {m : List (κ × Value)}, MR ρ es m → MR ρ' (shE k es) m
  | [], _, r => r
  | _ :: _, _, r => by
    obtain ⟨v, q, e, r1, r2⟩ := r
    exact ⟨v, q, e, SV.sh_rel h _ _ r1, MR.sh h r2⟩
def SObj.sh (k : Nat) : SObj → SObj
  | .cells t cs => .cells t (shL k cs)
  | .vec t sz cs cap => .vec t sz (shL k cs) (cap.sh k)
  | .row t rk xs cap => .row t rk xs cap
  | .mp kk es => .mp kk (shE k es)
  | .it bm => .it (Nat.add bm k)
  | .big m => .big m
  | .gone => .gone
theorem enc_sh (k : RK) (x : k.T) (n : Nat) : shL n (k.enc x) = k.enc x := by cases k <;> rfl
theorem shL_append (k : Nat) (a b : List SV) : shL k (a ++ b) = shL k a ++ shL k b := by
  induction a with
  | nil => simp [shL]
  | cons x a ih => simp [shL, ih]
theorem encs_sh (k : RK) (xs : List k.T) (n : Nat) : shL n (xs.flatMap k.enc) = xs.flatMap k.enc := by
  induction xs with
  | nil => rfl
  | cons x xs ih => rw [List.flatMap_cons, shL_append, enc_sh, ih]
theorem shL_len (k : Nat) (l : List SV) : (shL k l).length = l.length := by
  induction l with
  | nil => rfl
  | cons x l ih => simp [shL, ih]
/-- no object out of a model -/
def plainO : SObj → Bool
  | .big _ => false
  | _ => true
theorem Rep.sh {𝔅 : BigRep} {ρ ρ' : Ren} {k b : Nat} (h : ∀ b, ρ' (b + k) = ρ b) {o : SObj} {G : Grp} (r : Rep 𝔅 ρ b o G) : Rep 𝔅 ρ' (b + k) (o.sh k) G := by
  cases o with
  | cells t cs =>
    obtain ⟨g, c, e, e2, r⟩ := r
    exact ⟨g, c, (h b).trans e, e2, shL_rel h _ _ r⟩
  | vec t sz cs cap =>
    obtain ⟨z, hi, h1, h2, r⟩ := r
    exact ⟨z, Cap.sh_is h hi, by rw [shL_len]; exact h1, h2, r.imp id (fun ⟨g, c, e, e2, h3, h4⟩ => ⟨g, c, (h b).trans e, e2, h3, by rw [shL_len]; exact shL_rel h _ _ h4⟩)⟩
  | row t rk xs cap =>
    obtain ⟨h1, h2, r⟩ := r
    exact ⟨h1, h2, r.imp id (fun ⟨g, c, e, e2, h3, h4⟩ => ⟨g, c, (h b).trans e, e2, h3, by rw [← encs_sh rk xs k]; exact shL_rel h _ _ h4⟩)⟩
  | mp kk es =>
    obtain ⟨g, m, e, r, hm⟩ := r
    exact ⟨g, m, (h b).trans e, r.sh h, hm⟩
  | it bm =>
    obtain ⟨gi, gm, x, y, z, e1, e2, r⟩ := r
    exact ⟨gi, gm, x, y, z, (h b).trans e1, (h bm).trans e2, r⟩
  | big m => obtain ⟨g, e, r⟩ := r; exact ⟨g, (h b).trans e, r⟩
  | gone => exact r
def shH (k : Nat) : Heap → Heap → Heap
  | [], t => t
  | x :: h, t => (Nat.add x.1 k, x.2.sh k) :: shH k h t
theorem Reps.sh {𝔅 : BigRep} {ρ ρ0 ρ' : Ren} {k : Nat} (h : ∀ b, ρ' (b + k) = ρ b) (hl : ρ0.le ρ') : ∀ {hp t : Heap} {Gs Hs : List Grp}, Reps 𝔅 ρ hp Gs → Reps 𝔅 ρ0 t Hs → Reps 𝔅 ρ' (shH k hp t) (Gs ++ Hs)
  | [], t, Gs, Hs, r, q => by
    have r' : Gs = [] := r
    subst r'
    exact q.mono hl
  | x :: hp, t, Gs, Hs, r, q => by
    obtain ⟨G, R, rfl, r1, r2⟩ := r
    exact ⟨G, R ++ Hs, rfl, r1.sh h, Reps.sh h hl r2 q⟩

mutual
/-- nothing of memory -/
def SV.dry : SV → Bool
  | .p _ _ | .sl .. | .m _ | .nu _ => false
  | .fn _ cap => dryL cap
  | .ifc _ v => SV.dry v
  | .agg l => dryL l
  | .tup l => dryL l
  | _ => true
def dryL : List SV → Bool
  | [] => true
  | x :: l => SV.dry x && dryL l
end
mutual
theorem SV.dry_rel {ρ ρ' : Ren} : ∀ (x : SV) (v : Value), x.dry = true → x.Rel ρ v → x.Rel ρ' v
  | .tt, _, _, r | .ff, _, _, r | .b _, _, _, r | .l _ _, _, _, r | .i _ _, _, _, r | .f _ _, _, _, r | .s _, _, _, r | .t _, _, _, r | .rp _ _, _, _, r | .np, _, _, r | .ns, _, _, r | .nm, _, _, r | .nf, _, _, r | .ni, _, _, r | .v _, _, _, r | .none_, _, _, r => by
    simp only [SV.Rel] at r ⊢; exact r
  | .p b o, v, d, r => by cases d
  | .sl lit b sz frm len cap, v, d, r => by cases d
  | .m b, v, d, r => by cases d
  | .nu b, v, d, r => by cases d
  | .fn f cap, v, d, r => by
    simp only [SV.dry] at d
    simp only [SV.Rel] at r ⊢
    obtain ⟨cs, e, r⟩ := r
    exact ⟨cs, e, dryL_rel cap cs.toList d r⟩
  | .ifc t x, v, d, r => by
    simp only [SV.dry] at d
    simp only [SV.Rel] at r ⊢
    obtain ⟨y, e, r⟩ := r
    exact ⟨y, e, SV.dry_rel x y d r⟩
  | .agg l, v, d, r => by
    simp only [SV.dry] at d
    simp only [SV.Rel] at r ⊢
    obtain ⟨cs, e, r⟩ := r
    exact ⟨cs, e, dryL_rel l cs.toList d r⟩
  | .tup l, v, d, r => by
    simp only [SV.dry] at d
    simp only [SV.Rel] at r ⊢
    obtain ⟨cs, e, r⟩ := r
    exact ⟨cs, e, dryL_rel l cs.toList d r⟩
  | .junk, _, _, _ => by simp only [SV.Rel]
theorem dryL_rel {ρ ρ' : Ren} : ∀ (l : List SV) (vs : List Value), dryL l = true → RelL ρ l vs → RelL ρ' l vs
  | [], vs, _, r => by simp only [RelL] at r ⊢; exact r
  | x :: l, vs, d, r => by
    simp only [dryL, Bool.and_eq_true] at d
    simp only [RelL] at r ⊢
    obtain ⟨v, q, e, r1, r2⟩ := r
    exact ⟨v, q, e, SV.dry_rel x v d.1 r1, dryL_rel l q d.2 r2⟩
end

/-! sameness that the kernel reckons -/
def beqF (a b : FloatKind) : Bool := sameF a b
def Off.beq : Off → Off → Bool
  | .c o, y => (match y with | .c o' => Nat.beq o o' | .r _ _ _ => false)
  | .r a b d, y => (match y with | .c _ => false | .r a' b' d' => Nat.beq a a' && Nat.beq b b' && Nat.beq d d')
theorem Off.beq_eq {a b : Off} (h : a.beq b = true) : a = b := by
  cases a <;> cases b <;> simp only [Off.beq, Bool.and_eq_true, Nat.beq_eq, Bool.false_eq_true] at h <;> simp_all
def Cap.beq : Cap → Cap → Bool
  | .c n, y => (match y with | .c m => Nat.beq n m | _ => false)
  | .v n, y => (match y with | .v m => Nat.beq n m | _ => false)
  | .o i m, y => (match y with | .o i' m' => Nat.beq i i' && Nat.beq m m' | _ => false)
  | .zr, y => (match y with | .zr => true | _ => false)
theorem Cap.beq_eq {a b : Cap} (h : a.beq b = true) : a = b := by
  cases a <;> cases b <;> simp only [Cap.beq, Bool.and_eq_true, Nat.beq_eq, Bool.false_eq_true] at h <;> simp_all
def bb (a b : Bool) : Bool := match a with | true => b | false => !b
theorem bb_eq {a b : Bool} (h : bb a b = true) : a = b := by cases a <;> cases b <;> simp_all [bb]
mutual
def SV.beq : SV → SV → Bool
  | .tt, y => (match y with | .tt => true | _ => false)
  | .ff, y => (match y with | .ff => true | _ => false)
  | .b c, y => (match y with | .b d => bb c d | _ => false)
  | .l k n, y => (match y with | .l k' n' => isK k k' && eqI n n' | _ => false)
  | .i k n, y => (match y with | .i k' n' => isK k k' && eqI n n' | _ => false)
  | .f k n, y => (match y with | .f k' n' => sameF k k' && Nat.beq n n' | _ => false)
  | .t l, y => (match y with | .t m => eqBy l m | _ => false)
  | .p b o, y => (match y with | .p b' o' => Nat.beq b b' && o.beq o' | _ => false)
  | .rp b o, y => (match y with | .rp b' o' => Nat.beq b b' && o.beq o' | _ => false)
  | .np, y => (match y with | .np => true | _ => false)
  | .sl lit b sz f n c, y => (match y with | .sl lit' b' sz' f' n' c' => bb lit lit' && Nat.beq b b' && Nat.beq sz sz' && Nat.beq f f' && Nat.beq n n' && c.beq c' | _ => false)
  | .ns, y => (match y with | .ns => true | _ => false)
  | .m b, y => (match y with | .m b' => Nat.beq b b' | _ => false)
  | .nu b, y => (match y with | .nu b' => Nat.beq b b' | _ => false)
  | .nm, y => (match y with | .nm => true | _ => false)
  | .fn f cap, y => (match y with | .fn f' cap' => Nat.beq f f' && beqL cap cap' | _ => false)
  | .nf, y => (match y with | .nf => true | _ => false)
  | .ifc t v, y => (match y with | .ifc t' v' => Nat.beq t t' && SV.beq v v' | _ => false)
  | .ni, y => (match y with | .ni => true | _ => false)
  | .agg l, y => (match y with | .agg m => beqL l m | _ => false)
  | .tup l, y => (match y with | .tup m => beqL l m | _ => false)
  | .junk, y => (match y with | .junk => true | _ => false)
  | .none_, y => (match y with | .none_ => true | _ => false)
  | .s _, _ => false
  | .v _, _ => false
def beqL : List SV → List SV → Bool
  | [], y => (match y with | [] => true | _ => false)
  | x :: l, y => (match y with | z :: m => SV.beq x z && beqL l m | _ => false)
end
theorem eqI_eq {a b : Int} (h : eqI a b = true) : a = b := by rw [eqI_spec] at h; exact of_decide_eq_true h
theorem eqBy_eq {a b : List UInt8} (h : eqBy a b = true) : a = b := by
  rw [eqBy_spec] at h
  exact beq_iff_eq.1 h
mutual
theorem SV.beq_eq : ∀ (x y : SV), x.beq y = true → x = y
  | .tt, y, h | .ff, y, h | .np, y, h | .ns, y, h | .nm, y, h | .nf, y, h | .ni, y, h | .junk, y, h | .none_, y, h => by
    cases y <;> simp only [SV.beq, Bool.false_eq_true] at h <;> rfl
  | .b c, y, h => by cases y <;> simp only [SV.beq, Bool.false_eq_true] at h; rw [bb_eq h]
  | .l k n, y, h => by
    cases y <;> simp only [SV.beq, Bool.false_eq_true, Bool.and_eq_true] at h
    rw [isK_eq h.1, eqI_eq h.2]
  | .i k n, y, h => by
    cases y <;> simp only [SV.beq, Bool.false_eq_true, Bool.and_eq_true] at h
    rw [isK_eq h.1, eqI_eq h.2]
  | .f k n, y, h => by
    cases y <;> simp only [SV.beq, Bool.false_eq_true, Bool.and_eq_true] at h
    rw [sameF_eq h.1, Nat.eq_of_beq_eq_true h.2]
  | .t l, y, h => by cases y <;> simp only [SV.beq, Bool.false_eq_true] at h; rw [eqBy_eq h]
  | .p b o, y, h => by
    cases y <;> simp only [SV.beq, Bool.false_eq_true, Bool.and_eq_true] at h
    rw [Nat.eq_of_beq_eq_true h.1, Off.beq_eq h.2]
  | .rp b o, y, h => by
    cases y <;> simp only [SV.beq, Bool.false_eq_true, Bool.and_eq_true] at h
    rw [Nat.eq_of_beq_eq_true h.1, Off.beq_eq h.2]
  | .sl lit b sz f n c, y, h => by
    cases y <;> simp only [SV.beq, Bool.false_eq_true, Bool.and_eq_true] at h
    obtain ⟨⟨⟨⟨⟨h1, h2⟩, h3⟩, h4⟩, h5⟩, h6⟩ := h
    rw [bb_eq h1, Nat.eq_of_beq_eq_true h2, Nat.eq_of_beq_eq_true h3, Nat.eq_of_beq_eq_true h4, Nat.eq_of_beq_eq_true h5, Cap.beq_eq h6]
  | .m b, y, h => by cases y <;> simp only [SV.beq, Bool.false_eq_true] at h; rw [Nat.eq_of_beq_eq_true h]
  | .nu b, y, h => by cases y <;> simp only [SV.beq, Bool.false_eq_true] at h; rw [Nat.eq_of_beq_eq_true h]
  | .fn f cap, y, h => by
    cases y <;> simp only [SV.beq, Bool.false_eq_true, Bool.and_eq_true] at h
    rw [show f = _ from Nat.eq_of_beq_eq_true h.1, beqL_eq _ _ h.2]
  | .ifc t v, y, h => by
    cases y <;> simp only [SV.beq, Bool.false_eq_true, Bool.and_eq_true] at h
    rw [show t = _ from Nat.eq_of_beq_eq_true h.1, SV.beq_eq _ _ h.2]
  | .agg l, y, h => by cases y <;> simp only [SV.beq, Bool.false_eq_true] at h; rw [beqL_eq _ _ h]
  | .tup l, y, h => by cases y <;> simp only [SV.beq, Bool.false_eq_true] at h; rw [beqL_eq _ _ h]
  | .s _, _, h => by simp only [SV.beq, Bool.false_eq_true] at h
  | .v _, _, h => by simp only [SV.beq, Bool.false_eq_true] at h
theorem beqL_eq : ∀ (l m : List SV), beqL l m = true → l = m
  | [], m, h => by cases m <;> simp only [beqL, Bool.false_eq_true] at h; rfl
  | x :: l, m, h => by
    cases m <;> simp only [beqL, Bool.false_eq_true, Bool.and_eq_true] at h
    rw [SV.beq_eq _ _ h.1, beqL_eq _ _ h.2]
end
def beqX {α : Type} (q : α → α → Bool) : List α → List α → Bool
  | [], y => (match y with | [] => true | _ => false)
  | x :: l, y => (match y with | z :: m => q x z && beqX q l m | _ => false)
theorem beqX_eq {α : Type} {q : α → α → Bool} (hq : ∀ a b, q a b = true → a = b) : ∀ (l m : List α), beqX q l m = true → l = m
  | [], m, h => by cases m <;> simp only [beqX, Bool.false_eq_true] at h; rfl
  | x :: l, m, h => by
    cases m <;> simp only [beqX, Bool.false_eq_true, Bool.and_eq_true] at h
    rw [hq _ _ h.1, beqX_eq hq _ _ h.2]
def KK.same : KK → KK → Bool
  | .int k, y => (match y with | .int k' => isK k k' | _ => false)
  | .str, y => (match y with | .str => true | _ => false)
  | .non, y => (match y with | .non => true | _ => false)
theorem KK.same_eq {a b : KK} (h : a.same b = true) : a = b := by
  cases a <;> cases b <;> simp only [KK.same, Bool.false_eq_true] at h <;> first | rfl | rw [isK_eq h]
/-- entries of a map of one kind as those of another -/
def beqM (k : KK) (es : List (k.T × SV)) : (k' : KK) → List (k'.T × SV) → Bool := match k with
  | .int _ => fun k' => match k' with
    | .int _ => fun es' => beqX (fun a b => eqI a.1 b.1 && a.2.beq b.2) es es'
    | .str => fun _ => false
    | .non => fun _ => false
  | .str => fun k' => match k' with
    | .int _ => fun _ => false
    | .str => fun es' => beqX (fun a b => eqBy a.1 b.1 && a.2.beq b.2) es es'
    | .non => fun _ => false
  | .non => fun k' => match k' with
    | .int _ => fun _ => false
    | .str => fun _ => false
    | .non => fun es' => (match es with | [] => (match es' with | [] => true | _ => false) | _ => false)
theorem beqM_eq {k : KK} {es : List (k.T × SV)} {es' : List (k.T × SV)} (h : beqM k es k es' = true) : es = es' := by
  cases k with
  | int k =>
    refine beqX_eq (fun a b h => ?_) _ _ h
    obtain ⟨a1, a2⟩ := a
    obtain ⟨b1, b2⟩ := b
    simp only [Bool.and_eq_true] at h
    rw [Prod.mk.injEq]
    exact ⟨eqI_eq h.1, SV.beq_eq _ _ h.2⟩
  | str =>
    refine beqX_eq (fun a b h => ?_) _ _ h
    obtain ⟨a1, a2⟩ := a
    obtain ⟨b1, b2⟩ := b
    simp only [Bool.and_eq_true] at h
    rw [Prod.mk.injEq]
    exact ⟨eqBy_eq h.1, SV.beq_eq _ _ h.2⟩
  | non =>
    cases es with
    | nil => cases es' with
      | nil => rfl
      | cons a l => exact (nomatch a.1)
    | cons a l => exact (nomatch a.1)
def RK.same : RK → RK → Bool
  | .u64, .u64 => true
  | .i64, .i64 => true
  | .bl, .bl => true
  | .one, .one => true
  | _, _ => false
theorem RK.same_eq {a b : RK} (h : a.same b = true) : a = b := by cases a <;> cases b <;> first | rfl | cases h
def SObj.beq : SObj → SObj → Bool
  | .cells t cs, y => (match y with | .cells t' cs' => Nat.beq t t' && beqL cs cs' | _ => false)
  | .vec t sz cs cap, y => (match y with | .vec t' sz' cs' cap' => Nat.beq t t' && Nat.beq sz sz' && beqL cs cs' && cap.beq cap' | _ => false)
  | .row _ _ _ _, _ => false
  | .mp k es, y => (match y with | .mp k' es' => k.same k' && beqM k es k' es' | _ => false)
  | .it b, y => (match y with | .it b' => Nat.beq b b' | _ => false)
  | .big m, y => (match y with | .big m' => BM.same m m' | _ => false)
  | .gone, y => (match y with | .gone => true | _ => false)
theorem SObj.beq_eq {x y : SObj} (h : x.beq y = true) : x = y := by
  cases x with
  | cells t cs =>
    cases y <;> simp only [SObj.beq, Bool.false_eq_true, Bool.and_eq_true] at h
    rw [show t = _ from Nat.eq_of_beq_eq_true h.1, beqL_eq _ _ h.2]
  | vec t sz cs cap =>
    cases y <;> simp only [SObj.beq, Bool.false_eq_true, Bool.and_eq_true] at h
    obtain ⟨⟨⟨h1, h2⟩, h3⟩, h4⟩ := h
    rw [show t = _ from Nat.eq_of_beq_eq_true h1, Nat.eq_of_beq_eq_true h2, beqL_eq _ _ h3, Cap.beq_eq h4]
  | row t k xs cap => cases h
  | mp k es =>
    cases y <;> simp only [SObj.beq, Bool.false_eq_true, Bool.and_eq_true] at h
    obtain ⟨h1, h2⟩ := h
    have := KK.same_eq h1
    subst this
    rw [beqM_eq h2]
  | it b => cases y <;> simp only [SObj.beq, Bool.false_eq_true] at h; rw [Nat.eq_of_beq_eq_true h]
  | big m =>
    cases y <;> simp only [SObj.beq, Bool.false_eq_true] at h
    next m' => rw [BM.same_eq h]
  | gone => cases y <;> simp only [SObj.beq, Bool.false_eq_true] at h; rfl
def beqH : Heap → Heap → Bool
  | [], y => (match y with | [] => true | _ => false)
  | x :: l, y => (match y with | z :: m => Nat.beq x.1 z.1 && x.2.beq z.2 && beqH l m | _ => false)
theorem beqH_eq : ∀ (l m : Heap), beqH l m = true → l = m
  | [], m, h => by cases m <;> simp only [beqH, Bool.false_eq_true] at h; rfl
  | x :: l, m, h => by
    obtain ⟨x1, x2⟩ := x
    cases m with
    | nil => cases h
    | cons z m =>
      obtain ⟨z1, z2⟩ := z
      simp only [beqH, Bool.and_eq_true] at h
      rw [Nat.eq_of_beq_eq_true h.1.1, SObj.beq_eq h.1.2, beqH_eq _ _ h.2]

/-- the second one is some of the first one's objects, in order -/
def subH : Heap → Heap → Bool
  | [], y => (match y with | [] => true | _ => false)
  | x :: l, y => (match y with
    | [] => true
    | z :: m => if Nat.beq x.1 z.1 then x.2.beq z.2 && subH l m else subH l (z :: m))
theorem Reps.sub {𝔅 : BigRep} {ρ : Ren} : ∀ {h h0 : Heap} {Gs : List Grp}, subH h h0 = true → Reps 𝔅 ρ h Gs → ∃ Ks Ds, Reps 𝔅 ρ h0 Ks ∧ Gs.Perm (Ds ++ Ks)
  | [], h0, Gs, e, r => by
    cases h0 with
    | nil => exact ⟨Gs, [], r, by simp⟩
    | cons z m => cases e
  | x :: l, h0, Gs, e, r => by
    obtain ⟨G, R, rfl, r1, r2⟩ := r
    cases h0 with
    | nil => exact ⟨[], G :: R, rfl, by simp⟩
    | cons z m =>
      simp only [subH] at e
      split at e
      next hb =>
        simp only [Bool.and_eq_true] at e
        obtain ⟨Ks, Ds, k1, k2⟩ := Reps.sub e.2 r2
        refine ⟨G :: Ks, Ds, ⟨G, Ks, rfl, ?_, k1⟩, ?_⟩
        · rw [← Nat.eq_of_beq_eq_true hb, ← SObj.beq_eq e.1]; exact r1
        · exact ((k2.cons G).trans (List.perm_middle.symm))
      next =>
        obtain ⟨Ks, Ds, k1, k2⟩ := Reps.sub e r2
        exact ⟨Ks, G :: Ds, k1, k2.cons G⟩
theorem Holds.sub {C : Ctx} {ρ : Ren} {h h0 : Heap} {w : World} (e : subH h h0 = true) (H : Holds C ρ h w) : Holds C ρ h0 w := by
  obtain ⟨Gs, r, hp⟩ := H
  obtain ⟨Ks, Ds, k1, k2⟩ := Reps.sub e r
  refine ⟨Ks, k1, ?_⟩
  have := hp.permG (k2.append_right C.R)
  rw [List.append_assoc] at this
  clear k2 hp
  induction Ds with
  | nil => exact this
  | cons D Ds ih => exact ih (Hp.drop this)
/-- what comes of a run, told -/
noncomputable def tellK : Bool → SV → Heap → Nat → Tree := fun b v h n => .done (if b then .r else .p v) ⟨setsS 0 [v] (blank 1), h, n, []⟩
/-- a result is this one -/
noncomputable def isRes (x : SV) (h : Heap) (n : Nat) : Ex → St → Bool := fun e st => (match e with | .r => true | _ => false) && (sget st.tm 0).beq x && subH st.hp h && Nat.beq st.nx n

/-- a contract of one call at nothing of memory -/
noncomputable def onceSpec (a0 : List SV) (x : SV) (h0 : Heap) (n0 : Nat) : Spec := fun args h n K => if beqL args a0 then K true (x.sh n) (shH n h0 h) (Nat.add n0 n) else .fail 700
theorem once_ok {P : Program} {𝔅 : BigRep} {f : FuncId} {sp : Spec} (hs : SpecEnters P 𝔅 f sp) {a0 : List SV} {x : SV} {h0 : Heap} {n0 : Nat} (hd : dryL a0 = true) (ht : (sp a0 [] 0 tellK).sure (isRes x h0 n0) = true) :
    SpecEnters P 𝔅 f (onceSpec a0 x h0 n0) where
  enter := hs.enter
  calls := by
    intro C Q args h n K hB hk ρ w vs hv hH hbd
    unfold onceSpec at hk
    split at hk
    next he =>
      have := beqL_eq _ _ he
      subst this
      obtain ⟨Hs, hr, hp⟩ := hH
      have key := hs.calls ⟨C.I, Hs ++ C.R, C.B⟩ (fun e st => e = .r ∧ sget st.tm 0 = x ∧ subH st.hp h0 = true ∧ st.nx = n0) args [] 0 tellK hB
        (Tree.sure_den (fun e st hok => by
          simp only [isRes, Bool.and_eq_true] at hok
          obtain ⟨⟨⟨h1, h2⟩, h3⟩, h4⟩ := hok
          refine ⟨?_, SV.beq_eq _ _ h2, h3, Nat.eq_of_beq_eq_true h4⟩
          cases e <;> first | rfl | cases h1) ht)
        (fun _ => none) w vs (dryL_rel _ _ hd hv) ⟨[], rfl, hp⟩ (fun _ _ => rfl)
      refine key.mono ?_
      rintro e w' ⟨b, v, y, h', n', ρ', rfl, hv', hH', hle, hbd', hden⟩
      have hden' : (if b then Ex.r else Ex.p y) = Ex.r ∧ sget (setsS 0 [y] (blank 1)) 0 = x ∧ subH h' h0 = true ∧ n' = n0 := hden
      obtain ⟨hb, hx, hsub, rfl⟩ := hden'
      replace hH' := Holds.sub hsub hH'
      have hb' : b = true := by cases b with
        | true => rfl
        | false => cases hb
      subst hb'
      have hx' : y = x := hx
      subst hx'
      let ρ2 : Ren := fun b => if b < n then ρ b else ρ' (b - n)
      have h2 : ∀ b, ρ2 (b + n) = ρ' b := fun b => by
        show (if b + n < n then ρ (b + n) else ρ' (b + n - n)) = ρ' b
        rw [if_neg (by omega), Nat.add_sub_cancel]
      have hl : ρ.le ρ2 := fun b g hg => by
        show (if b < n then ρ b else ρ' (b - n)) = some g
        rw [if_pos (hbd.lt hg)]; exact hg
      refine ⟨true, v, y.sh n, shH n h0 h, n' + n, ρ2, rfl, SV.sh_rel h2 _ _ hv', ?_, hl, ?_, hk⟩
      · obtain ⟨Gs, r1, r2⟩ := hH'
        exact ⟨Gs ++ Hs, Reps.sh h2 hl r1 hr, by rw [List.append_assoc]; exact r2⟩
      · intro b hb
        show (if b < n then ρ b else ρ' (b - n)) = none
        rw [if_neg (by omega)]
        exact hbd' _ (by omega)
    · exact hk.elim
/-- a contract of one call at one state -/
noncomputable def atSpec (a0 : List SV) (h0 : Heap) (n0 : Nat) (x : SV) (h1 : Heap) (n1 : Nat) : Spec := fun args h n K => if beqL args a0 && beqH h h0 && Nat.beq n n0 then K true x h1 n1 else .fail 701
theorem at_ok {P : Program} {𝔅 : BigRep} {f : FuncId} {sp : Spec} (hs : SpecEnters P 𝔅 f sp) {a0 : List SV} {h0 : Heap} {n0 : Nat} {x : SV} {h1 : Heap} {n1 : Nat} (ht : (sp a0 h0 n0 tellK).sure (isRes x h1 n1) = true) :
    SpecEnters P 𝔅 f (atSpec a0 h0 n0 x h1 n1) where
  enter := hs.enter
  calls := by
    intro C Q args h n K hB hk ρ w vs hv hH hbd
    unfold atSpec at hk
    split at hk
    next he =>
      simp only [Bool.and_eq_true] at he
      obtain ⟨⟨e1, e2⟩, e3⟩ := he
      have := beqL_eq _ _ e1
      subst this
      have := beqH_eq _ _ e2
      subst this
      have := Nat.eq_of_beq_eq_true e3
      subst this
      have key := hs.calls C (fun e st => e = .r ∧ sget st.tm 0 = x ∧ subH st.hp h1 = true ∧ st.nx = n1) args h n tellK hB
        (Tree.sure_den (fun e st hok => by
          simp only [isRes, Bool.and_eq_true] at hok
          obtain ⟨⟨⟨h1, h2⟩, h3⟩, h4⟩ := hok
          refine ⟨?_, SV.beq_eq _ _ h2, h3, Nat.eq_of_beq_eq_true h4⟩
          cases e <;> first | rfl | cases h1) ht) ρ w vs hv hH hbd
      refine key.mono ?_
      rintro e w' ⟨b, v, y, h', n', ρ', rfl, hv', hH', hle, hbd', hden⟩
      have hden' : (if b then Ex.r else Ex.p y) = Ex.r ∧ sget (setsS 0 [y] (blank 1)) 0 = x ∧ subH h' h1 = true ∧ n' = n1 := hden
      obtain ⟨hb, hx, hsub, rfl⟩ := hden'
      replace hH' := Holds.sub hsub hH'
      have hb' : b = true := by cases b with
        | true => rfl
        | false => cases hb
      subst hb'
      have hx' : y = x := hx
      subst hx'
      exact ⟨true, v, y, h1, n', ρ', rfl, hv', hH', hle, hbd', hk⟩
    · exact hk.elim
theorem enters_fnF {P : Program} {E : Env} {𝔅 : BigRep} (hE : EnvOk P 𝔅 E) {ds : FuncId → Option DSpec} (hds : ∀ f sp, ds f = some sp → DSpecOk P 𝔅 f sp) {f : FuncId} {fn : Func} {c : Code} (hf : P.funcs[f]? = some fn) (hb : fn.body = some c) (hname : (fn.name == "runtime.NumGoroutine") = false) :
    SpecEnters P 𝔅 f (fnF E ds fn c) where
  enter := enter_of hf hb hname
  calls := by
    intro C Q args h n K hB hk ρ w vs hv hH hbd
    subst hB
    rw [fnF_eq] at hk
    exact fnT_calls hE hds hf hb hk hv hH hbd
theorem AllOk.treeE {P : Program} {𝔅 : BigRep} {A : All} (h : AllOk P 𝔅 A) {n : Nat} {f : FuncId} {fn : Func} {c : Code} (hf : A.fn f = some fn) (hc : fn.body = some c) : SpecEnters P 𝔅 f (A.tree n f fn c) :=
  enters_fnF (h.env (h.inl n) _) (h.dsp (h.inl n)) (h.fn _ _ hf).1 hc (h.fn _ _ hf).2
/-- one contract where the next number is this, another one elsewhere -/
noncomputable def byN (m : Nat) (a b : Spec) : Spec := fun args h n K => Bool.rec (motive := fun _ => Tree) (b args h n K) (a args h n K) (Nat.beq n m)
theorem byN_ok {P : Program} {𝔅 : BigRep} {f : FuncId} {m : Nat} {a b : Spec} (ha : SpecEnters P 𝔅 f a) (hb : SpecEnters P 𝔅 f b) : SpecEnters P 𝔅 f (byN m a b) where
  enter := ha.enter
  calls := by
    intro C Q args h n K hB hk
    have hk' : (Bool.rec (motive := fun _ => Tree) (b args h n K) (a args h n K) (Nat.beq n m)).den Q := hk
    cases e : Nat.beq n m with
    | true => rw [e] at hk'; exact ha.calls C Q args h n K hB hk'
    | false => rw [e] at hk'; exact hb.calls C Q args h n K hB hk'
def tupL : SV → List SV
  | .tup l => l
  | _ => []
/-! all of a program -/
theorem bodyOf_eq {fn : Func} (h : fn.body.isSome = true) : fn.body = some (bodyOf fn) := by
  unfold bodyOf
  cases hb : fn.body with
  | none => rw [hb] at h; cases h
  | some c => rfl
noncomputable def allP (P : Program) (l : List (FuncId × Spec)) : All := { ty := tiOf P, fn := fun f => P.funcs[f]?, tbl := specAt l, cfg := fun _ => { fuel := 3000 } }
noncomputable def runP (P : Program) (l : List (FuncId × Spec)) (f : FuncId) (fn : Func) : Spec := (allP P l).tree 40 f fn (bodyOf fn)
/-- what is asked of a program -/
structure Fit (P : Program) : Prop where
  names : ∀ (f : Nat) (fn : Func), P.funcs[f]? = some fn → (fn.name == "runtime.NumGoroutine") = false
  mx : P.follows .mixedOrders = true
theorem allP_ok {P : Program} (F : Fit P) {𝔅 : BigRep} {l : List (FuncId × Spec)} (h : ∀ x ∈ l, SpecOk P 𝔅 x.1 x.2) : AllOk P 𝔅 (allP P l) :=
  ⟨fun _ _ h => h, fun _ _ h => ⟨h, F.names _ _ h⟩, specAt_ok h, F.mx⟩
theorem runP_ok {P : Program} (F : Fit P) {𝔅 : BigRep} {l : List (FuncId × Spec)} (h : ∀ x ∈ l, SpecOk P 𝔅 x.1 x.2) {f : FuncId} {fn : Func} (hf : P.funcs[f]? = some fn) (hb : fn.body.isSome = true) : SpecEnters P 𝔅 f (runP P l f fn) :=
  (allP_ok F h).treeE hf (bodyOf_eq hb)
theorem cons_ok {P : Program} {𝔅 : BigRep} {l : List (FuncId × Spec)} {f : FuncId} {s : Spec} (hx : SpecOk P 𝔅 f s) (h : ∀ x ∈ l, SpecOk P 𝔅 x.1 x.2) : ∀ y ∈ (f, s) :: l, SpecOk P 𝔅 y.1 y.2 := by
  intro y hy
  rcases List.mem_cons.1 hy with rfl | hy
  · exact hx
  · exact h y hy
theorem nil_ok {P : Program} {𝔅 : BigRep} : ∀ y ∈ ([] : List (FuncId × Spec)), SpecOk P 𝔅 y.1 y.2 := by simp
/-! literals, short -/
abbrev u (n : Nat) : SV := .l .u64 (.ofNat n)
abbrev j (n : Nat) : SV := .l .i64 (.ofNat n)
abbrev q (b : Nat) : SV := .p b (.c 0)
abbrev mpi (k : IntKind) (es : List (Int × SV)) : SObj := .mp (.int k) es
abbrev mps (es : List (List UInt8 × SV)) : SObj := .mp .str es
def rp_ (n : Nat) (x : SV) (l : List SV) : List SV := Nat.rec (motive := fun _ => List SV) l (fun _ r => x :: r) n
end SX
end Go.Proofs.YtnjaaagiindclaaGreatDoor

/-
  Runs of calls at which all is known: the program.
-/
namespace Go.Proofs.YtnjaaagiindclaaGreatDoor
open Go.RowKit Go.Deep
namespace SX

theorem names_all : Tryz.prog.funcs.toList.all (fun fn => !(fn.name == "runtime.NumGoroutine")) = true := by kernel_rfl
theorem names_of {P : Program} (h0 : P.funcs.toList.all (fun fn => !(fn.name == "runtime.NumGoroutine")) = true) (f : Nat) (fn : Func) (h : P.funcs[f]? = some fn) : (fn.name == "runtime.NumGoroutine") = false := by
  rw [List.all_eq_true] at h0
  have := h0 fn (List.mem_of_getElem? (i := f) (by rw [Array.getElem?_toList]; exact h))
  simpa using this
theorem fit : Fit Tryz.prog := ⟨names_of names_all, by kernel_rfl⟩
/-- functions that the model stands in for -/
noncomputable def wt0 : List (FuncId × Spec) := [(161, spAdd), (240, spFrom), (264, spBits)]
theorem wt0_ok (𝔅 : BigRep) : ∀ x ∈ wt0, SpecOk Tryz.prog 𝔅 x.1 x.2 :=
  cons_ok (spAdd_ok Tryz.func161 (by kernel_rfl) (by kernel_rfl) (by kernel_rfl) (by kernel_rfl))
    (cons_ok (spFrom_ok Tryz.func240 (by kernel_rfl) (by kernel_rfl) (by kernel_rfl) (by kernel_rfl))
      (cons_ok (spBits_ok Tryz.func264 (by kernel_rfl) (by kernel_rfl) (by kernel_rfl) (by kernel_rfl)) nil_ok))
end SX
end Go.Proofs.YtnjaaagiindclaaGreatDoor
