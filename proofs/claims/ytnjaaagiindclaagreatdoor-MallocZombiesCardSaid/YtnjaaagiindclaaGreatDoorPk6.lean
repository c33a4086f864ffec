/-
  Part 6 of what the statement leans on: SxM, SxP, SxQ.
-/
import Derived.Test.YtnjaaagiindclaaGreatDoorPk5
import Derived.Laws.StructEq
import Derived.Deep.AppendSrc
import Derived.Great.BuildSlice
import Derived.Great.FillDense
import Derived.Laws.MakeOwn
/-
  SX: maps. No program in sight.
-/
namespace Go.Proofs.YtnjaaagiindclaaGreatDoor
open Go.RowKit Go.Deep
namespace SX

/-! keys -/
def eqI (a b : Int) : Bool := match a with
  | .ofNat m => (match b with | .ofNat n => Nat.beq m n | .negSucc _ => false)
  | .negSucc m => (match b with | .ofNat _ => false | .negSucc n => Nat.beq m n)
theorem eqI_spec (a b : Int) : eqI a b = decide (a = b) := by
  rw [Bool.eq_iff_iff, decide_eq_true_iff]
  cases a with
  | ofNat m => cases b with
    | ofNat n => simp only [eqI, Nat.beq_eq, Int.ofNat.injEq]
    | negSucc n => simp [eqI]
  | negSucc m => cases b with
    | ofNat n => simp [eqI]
    | negSucc n => simp only [eqI, Nat.beq_eq, Int.negSucc.injEq]
def KK.beq : (k : KK) → k.T → k.T → Bool
  | .int _, a, b => eqI a b
  | .str, a, b => eqBy a b
  | .non, _, _ => true
theorem KK.beq_spec (k : KK) (a b : k.T) : k.beq a b = decide (a = b) := by
  cases k with
  | int k => exact eqI_spec a b
  | str =>
    refine (eqBy_spec a b).trans ?_
    rw [Bool.eq_iff_iff, decide_eq_true_iff]
    exact beq_iff_eq (α := List UInt8)
  | non => exact (nomatch a)
/-- a known key -/
def KK.key (k : KK) (x : SV) : Option k.T := match k with
  | .int k => (match x with | .l k' n => if isK k' k then some n else none | _ => none)
  | .str => (match x with | .t l => some l | _ => none)
  | .non => none
theorem KK.key_rel {k : KK} {x : SV} {c : k.T} (h : k.key x = some c) {ρ : Ren} {v : Value} (r : x.Rel ρ v) : v = k.enc c := by
  cases k with
  | int k =>
    cases x <;> simp only [KK.key, reduceCtorEq] at h
    split at h
    next hk =>
      have h' := Option.some.inj h
      subst h'
      have := isK_eq hk
      subst this
      simp only [SV.Rel] at r
      exact r
    · cases h
  | str =>
    cases x <;> simp only [KK.key, reduceCtorEq] at h
    have h' := Option.some.inj h
    subst h'
    simp only [SV.Rel] at r
    exact r
  | non => cases h
def kkOf (ty : TypeId → Option TI) (kt : TypeId) : Option KK := match ty kt with
  | some i => (match i.k with
    | .num k => some (.int k)
    | .str => some .str
    | .st _ => some .non
    | _ => none)
  | none => none

section
variable {κ : Type} (q : κ → κ → Bool)
def eGet (es : List (κ × SV)) (c : κ) : Option SV := match es with
  | [] => none
  | e :: r => if q c e.1 then some e.2 else eGet r c
def eSet (es : List (κ × SV)) (c : κ) (x : SV) : List (κ × SV) := match es with
  | [] => [(c, x)]
  | e :: r => if q c e.1 then (c, x) :: r else e :: eSet r c x
def eDel (es : List (κ × SV)) (c : κ) : List (κ × SV) := match es with
  | [] => []
  | e :: r => if q c e.1 then r else e :: eDel r c
end
section
variable {κ : Type} [DecidableEq κ] {q : κ → κ → Bool} (hq : ∀ a b, q a b = decide (a = b)) {ρ : Ren}
theorem mapGet_nil (c : κ) : mapGet ([] : List (κ × Value)) c = none := rfl
theorem mapGet_cons (p : κ × Value) (m : List (κ × Value)) (c : κ) : mapGet (p :: m) c = if c = p.1 then some p.2 else mapGet m c := by
  unfold mapGet
  simp only [List.map_cons, posOf]
  by_cases h : c = p.1
  · simp [h]
  · simp only [if_neg h]
    cases posOf c (m.map (·.1)) <;> simp
theorem mapSet_nil (c : κ) (v : Value) : mapSet ([] : List (κ × Value)) c v = [(c, v)] := rfl
theorem mapSet_cons (p : κ × Value) (m : List (κ × Value)) (c : κ) (v : Value) : mapSet (p :: m) c v = if c = p.1 then (c, v) :: m else p :: mapSet m c v := by
  unfold mapSet
  simp only [List.map_cons, posOf]
  by_cases h : c = p.1
  · simp [h]
  · simp only [if_neg h]
    cases posOf c (m.map (·.1)) <;> simp
theorem mapDel_nil (c : κ) : mapDel ([] : List (κ × Value)) c = [] := rfl
theorem mapDel_cons (p : κ × Value) (m : List (κ × Value)) (c : κ) : mapDel (p :: m) c = if c = p.1 then m else p :: mapDel m c := by
  unfold mapDel
  simp only [List.map_cons, posOf]
  by_cases h : c = p.1
  · simp [h]
  · simp only [if_neg h]
    cases posOf c (m.map (·.1)) <;> simp
include hq
theorem MR.get : ∀ {es : List (κ × SV)} {m : List (κ × Value)} (_ : MR ρ es m) (c : κ) {y : Option SV}, eGet q es c = y →
    ∃ v, mapGet m c = v ∧ match y with | some y => ∃ u, v = some u ∧ y.Rel ρ u | none => v = none
  | [], m, r, c, y, hy => by
    have r' : m = [] := r
    subst r'
    simp only [eGet] at hy
    subst hy
    exact ⟨none, rfl, rfl⟩
  | e :: es, m, r, c, y, hy => by
    obtain ⟨v, p, rfl, r1, r2⟩ := r
    simp only [eGet, hq] at hy
    rw [mapGet_cons]
    by_cases h : c = e.1
    · simp only [h, decide_true, if_true] at hy ⊢
      subst hy
      exact ⟨some v, rfl, v, rfl, r1⟩
    · simp only [h, decide_false, Bool.false_eq_true, if_false] at hy ⊢
      exact MR.get r2 c hy
theorem MR.set {x : SV} {v : Value} (hx : x.Rel ρ v) : ∀ {es : List (κ × SV)} {m : List (κ × Value)} (_ : MR ρ es m) (c : κ), MR ρ (eSet q es c x) (mapSet m c v)
  | [], m, r, c => by
    have r' : m = [] := r
    subst r'; exact ⟨v, [], rfl, hx, rfl⟩
  | e :: es, m, r, c => by
    obtain ⟨u, p, rfl, r1, r2⟩ := r
    simp only [eSet, hq]
    rw [mapSet_cons]
    by_cases h : c = e.1
    · simp only [h, decide_true, if_true]
      exact ⟨v, p, rfl, hx, r2⟩
    · simp only [h, decide_false, Bool.false_eq_true, if_false]
      exact ⟨u, _, rfl, r1, MR.set hx r2 c⟩
theorem MR.del : ∀ {es : List (κ × SV)} {m : List (κ × Value)} (_ : MR ρ es m) (c : κ), MR ρ (eDel q es c) (mapDel m c)
  | [], m, r, c => by
    have r' : m = [] := r
    subst r'; exact rfl
  | e :: es, m, r, c => by
    obtain ⟨u, p, rfl, r1, r2⟩ := r
    simp only [eDel, hq]
    rw [mapDel_cons]
    by_cases h : c = e.1
    · simp only [h, decide_true, if_true]
      exact r2
    · simp only [h, decide_false, Bool.false_eq_true, if_false]
      exact ⟨u, _, rfl, r1, MR.del r2 c⟩
omit hq
omit [DecidableEq κ] in
theorem MR.length : ∀ {es : List (κ × SV)} {m : List (κ × Value)}, MR ρ es m → m.length = es.length
  | [], m, r => by
    have r' : m = [] := r
    subst r'; rfl
  | _ :: _, _, r => by
    obtain ⟨u, p, rfl, _, r2⟩ := r
    simp [MR.length r2]
end

theorem run_equalIn_str {P : Program} (w : World) (d : Nat) (t : TypeId) (a b : ByteArray) (h : P.underlying t = some .string) : (Op.equalIn (d + 1) t (.string a) (.string b)).run P w = .ok (a == b) w := by
  simp [Op.equalIn, run_underlying h]
theorem bytesBeq (a b : List UInt8) : (bytesOf a == bytesOf b) = decide (a = b) := by
  rw [beq_toListBytes, toList_bytesOf, toList_bytesOf, Bool.eq_iff_iff, decide_eq_true_iff]
  exact beq_iff_eq
theorem keyLaw_str {P : Program} {kt : TypeId} (h : P.underlying kt = some .string) : KeyLaw P kt (fun l : List UInt8 => .string (bytesOf l)) where
  now := ⟨.string, h, fun a b => .inr (by
    simp only [Instr.sameNow]
    rw [bytesBeq])⟩
  check := fun empty z w => by unfold Instr.checkKey; simp [run_underlying h]
  eq := fun a b w => by
    simp only [Op.equal, Op.maxDepth, run_equalIn_str (P := P) w 9999 kt _ _ h]
    rw [bytesBeq]
  same := fun z => by simp [Instr.sameBits, bytesBeq]
theorem keyLaw_of {P : Program} {ty : TypeId → Option TI} (hty : ∀ t i, ty t = some i → tiOf P t = some i) {kt : TypeId} {k : KK} (h : kkOf ty kt = some k) (hn : k ≠ .non) : KeyLaw P kt k.enc := by
  unfold kkOf at h
  split at h
  next i hi =>
    split at h
    next q hq => simp only [Option.some.injEq] at h; subst h; exact keyLaw_int (tiOf_num (hty _ _ hi) hq)
    next hq => simp only [Option.some.injEq] at h; subst h; exact keyLaw_str (tiOf_str (hty _ _ hi) hq)
    next => simp only [Option.some.injEq] at h; subst h; exact absurd rfl hn
    · cases h
  · cases h
def isNon : KK → Bool
  | .non => true
  | _ => false
theorem isNon_ne {k : KK} (h : isNon k = false) : k ≠ .non := by
  intro e; subst e; cases h

section
variable {P : Program} {C : Ctx} {ρ0 : Ren} {Q : Ex → St → Prop} {o : Oper} {st : St} {E : Env}

noncomputable def opMakeMap (ty : TypeId → Option TI) (st : St) (d : Option Nat) (t : TypeId) (k : St → Tree) : Tree := match ty t with
  | some ti => (match ti.k with
    | .mp kt _ => (match kkOf ty kt with
      | some kk => k (St.rec (motive := fun _ => St) (fun tm hp nx df => ⟨put tm d (.m nx), (nx, .mp kk []) :: hp, nx + 1, df⟩) st)
      | none => .fail 400)
    | _ => .fail 401)
  | none => .fail 402
theorem owes_makeMap (t : TypeId) (r : Option Operand) (h : o.op = .makeMap t r) (hr : r = none) : Owes P C ρ0 Q o st (calm (opMakeMap E.ty st o.dst t)) := by
  intro k kp hk ρ a w H next Qx hn _
  subst hr
  unfold calm opMakeMap at hk
  split at hk
  · split at hk
    · split at hk
      next kk _ =>
        refine wp_make_map t h (hn _ (upd ρ st.nx w.heap.size) _ _ (put_ag _ _ _) ?_ hk)
        · have H' : HS C ρ0 (upd ρ st.nx w.heap.size) { st with hp := (st.nx, .mp kk []) :: st.hp, nx := st.nx + 1 } a (w.alloc (.map #[] 0)) :=
            H.fresh ⟨w.heap.size, [], upd_at _ _ _, rfl, MapG.new _ _⟩ fun Gs hp => hp.new _
          exact H'.put o.dst (by simp only [SV.Rel]; exact ⟨_, upd_at _ _ _, rfl⟩)
      · exact hk.elim
    · exact hk.elim
  · exact hk.elim

/-- a struct key of plain fields whose kinds are all told -/
def flatK (ty : TypeId → Option TI) : List (Nat × Nat × Bool × TypeId × Bool) → List SV → Bool
  | [], _ => true
  | f :: fs, l => (match ty f.2.2.2.1 with
    | some i => (match i.k with | .num _ => true | .bo => true | .str => true | _ => false) && Nat.blt f.1 l.length
    | none => false) && flatK ty fs l
theorem checkKey_flat (hty : ∀ t i, E.ty t = some i → tiOf P t = some i) {kt : TypeId} {ti : TI} (hk : E.ty kt = some ti) {fs : List (Nat × Nat × Bool × TypeId × Bool)} (hf : ti.k = .st fs) {l : List SV} (hl : flatK E.ty fs l = true) {ρ : Ren} {cs : Array Value} (hr : RelL ρ l cs.toList) (em : Bool) (w : World) :
    (Instr.checkKey em 10000 kt (.agg cs)).run P w = .ok () w := by
  obtain ⟨F, hF, rfl⟩ := tiOf_st (hty _ _ hk) hf
  unfold Instr.checkKey
  simp only [Sem.run_bind, run_underlying hF, Result.andThen]
  rw [← Array.forIn_toList]
  have key : ∀ (G : List Field), flatK E.ty (G.map fun f => (f.offset, szOf P f.type, aggOf P f.type, f.type, f.name != "_")) l = true →
      (forIn (m := Sem) G PUnit.unit fun f r => (do
        if f.name ≠ "_" then
          Instr.checkKey em 9999 f.type (← part f.type cs f.offset)
        pure (ForInStep.yield PUnit.unit) : Sem (ForInStep PUnit))).run P w = .ok PUnit.unit w := by
    intro G
    induction G with
    | nil => intro _; rfl
    | cons f G ih =>
      intro hb
      simp only [List.map_cons, flatK, Bool.and_eq_true] at hb
      obtain ⟨hb1, hb2⟩ := hb
      split at hb1
      next i hi =>
        simp only [Bool.and_eq_true] at hb1
        obtain ⟨hb1, hlt⟩ := hb1
        have hlt := blt_lt hlt
        obtain ⟨v, hv, hvr⟩ := hr.get? hlt
        have hv' : cs[f.offset]? = some v := by rw [← Array.getElem?_toList]; exact hv
        have hund : ∃ d, P.underlying f.type = some d ∧ isAggD d = false ∧ ∀ u, (Instr.checkKey em 9999 f.type u).run P w = .ok () w := by
          split at hb1
          next q hq => exact ⟨_, tiOf_num (hty _ _ hi) hq, rfl, fun u => by unfold Instr.checkKey; simp [run_underlying (tiOf_num (hty _ _ hi) hq)]⟩
          next hq => exact ⟨_, tiOf_bo (hty _ _ hi) hq, rfl, fun u => by unfold Instr.checkKey; simp [run_underlying (tiOf_bo (hty _ _ hi) hq)]⟩
          next hq => exact ⟨_, tiOf_str (hty _ _ hi) hq, rfl, fun u => by unfold Instr.checkKey; simp [run_underlying (tiOf_str (hty _ _ hi) hq)]⟩
          · cases hb1
        obtain ⟨d, hd, hag, hck⟩ := hund
        have hpart : (part f.type cs f.offset).run P w = .ok v w := by simp [part, isAgg_run hd, hag, hv']
        have ih' := ih hb2
        rw [List.forIn_cons]
        by_cases hname : f.name = "_"
        · simp only [hname, ne_eq, not_true_eq_false, if_false]
          exact ih'
        · simp only [ne_eq, hname, not_false_eq_true, if_true, Sem.run_bind, hpart, Result.andThen, hck, Sem.run_pure]
          exact ih'
      · cases hb1
  have := key F.toList hl
  rw [this]
  rfl
theorem run_lookup_empty {w : World} {g clock : Nat} {t kt et : TypeId} {v z : Value} {d : TypeDesc} (hb : w.heap[g]? = some (.map #[] clock)) (hu : P.underlying t = some (.map kt et)) (hkt : P.underlying kt = some d)
    (hck : (Instr.checkKey true 10000 kt v).run P w = .ok () w) (hz : (zeroValue et).run P w = .ok z w) (ok : Bool) :
    (Instr.lookup t (.map (some g)) v ok).run P w = .ok (if ok then .tuple #[z, .bool false] else z) w := by
  have hf : (Instr.findKey kt v []).run P w = .ok none w := by
    simp only [Instr.findKey, Sem.run_bind, run_underlying hkt, Result.andThen, Instr.findNow, Sem.run_pure]
  unfold Instr.lookup
  simp only [Sem.run_bind, run_underlying hu, Result.andThen, getObj_map hb, Sem.run_pure]
  show Result.andThen ((Instr.checkKey true 10000 kt v).run P w) _ = _
  rw [hck]
  simp only [Result.andThen]
  show Result.andThen ((Instr.findKey kt v []).run P w) _ = _
  rw [hf]
  simp only [Result.andThen, Sem.run_bind, hz, Sem.run_pure]

/-- what a lookup gives -/
noncomputable def luV (st : St) (d : Option Nat) (ok : Bool) (x : Option SV) (z : TI) (k : St → Tree) : Tree :=
  let zv : SV := if z.agg then .agg z.zero else lget z.zero 0
  match x with
  | some y => if ok then ret st d (.tup [y, .tt]) k else ret st d y k
  | none => if ok then ret st d (.tup [zv, .ff]) k else ret st d zv k
noncomputable def opLookup (ty : TypeId → Option TI) (st : St) (d : Option Nat) (t : TypeId) (x i : SV) (ok : Bool) (k : St → Tree) : Tree := match ty t with
  | some ti => (match ti.k with
    | .mp kt et => (match ty et with
      | some te => if true then (match x with
        | .m b => (match st.hp.get b with
          | some o => (match o with
            | .mp kk es => (match kkOf ty kt with
              | some kk' => if decide (kk = kk') then (if isNon kk then (match i with
                    | .agg l => (match ty kt with
                      | some tk => (match tk.k with
                        | .st fs => if flatK ty fs l then luV st d ok none te k else .fail 410
                        | _ => .fail 411)
                      | none => .fail 412)
                    | _ => .fail 413)
                  else (match kk.key i with
                    | some c => luV st d ok (eGet kk.beq es c) te k
                    | none => .fail 414)) else .fail 415
              | none => .fail 416)
            | _ => .fail 417)
          | none => .fail 418)
        | _ => .fail 419) else .fail 420
      | none => .fail 421)
    | _ => .fail 422)
  | none => .fail 423
theorem zero_run (hty : ∀ t i, E.ty t = some i → tiOf P t = some i) {et : TypeId} {te : TI} (h : E.ty et = some te) (ρ : Ren) :
    ∃ z, (∀ w, (zeroValue et).run P w = .ok z w) ∧ SV.Rel ρ (if te.agg then .agg te.zero else lget te.zero 0) z := by
  obtain ⟨f, z, d, hf, hz, hd, rfl, hzk, _⟩ := tiOf_d (hty _ _ h)
  refine ⟨z, fun w => by simp [zeroValue, typeInfo, hf, hz], ?_⟩
  simp only
  cases hag : isAggD d with
  | true =>
    have : ∃ cs, z = .agg cs := by
      unfold zOk at hzk
      split at hzk
      · exact ⟨_, rfl⟩
      · cases hzk
      · rw [hag] at hzk; cases hzk
    obtain ⟨cs, rfl⟩ := this
    simp only [if_true, SV.Rel]
    refine ⟨cs, rfl, ?_⟩
    have := RelL.map (ρ := ρ) (f := ofVal) (g := fun v => v) (l := cs.toList) (fun v _ => ofVal_rel ρ v)
    simpa [Value.cells] using this
  | false =>
    have : z.cells = #[z] := by
      unfold zOk at hzk
      split at hzk
      · rw [hag] at hzk; cases hzk
      · cases hzk
      next h1 h2 => cases z <;> first | rfl | (exact absurd rfl (h1 _))
    rw [this]
    simp only [Bool.false_eq_true, if_false]
    exact ofVal_rel ρ z
theorem luV_snd {d : Option Nat} {ok : Bool} {x : Option SV} {te : TI} {k : St → Tree} (hk : (luV st d ok x te k).den Q) {ρ : Ren} {z : Value} {v : Option Value} (hz : SV.Rel ρ (if te.agg then .agg te.zero else lget te.zero 0) z)
    (hv : (∀ y, x = some y → ∃ u, v = some u ∧ y.Rel ρ u) ∧ (x = none → v = none)) :
    ∃ y, (k { st with tm := put st.tm d y }).den Q ∧ y.Rel ρ (if ok then .tuple #[v.getD z, .bool v.isSome] else v.getD z) := by
  unfold luV at hk
  cases x with
  | some y =>
    obtain ⟨u, rfl, hu⟩ := hv.1 y rfl
    cases ok with
    | true =>
      simp only [if_true] at hk ⊢
      exact ⟨_, hk, by simp only [SV.Rel]; exact ⟨_, rfl, .cons hu (.cons (by simp [SV.Rel]) .nil)⟩⟩
    | false =>
      simp only [Bool.false_eq_true, if_false] at hk ⊢
      exact ⟨_, hk, hu⟩
  | none =>
    have hv := hv.2 rfl
    subst hv
    cases ok with
    | true =>
      simp only [if_true] at hk ⊢
      exact ⟨_, hk, by simp only [SV.Rel]; exact ⟨_, rfl, .cons hz (.cons (by simp [SV.Rel]) .nil)⟩⟩
    | false =>
      simp only [Bool.false_eq_true, if_false] at hk ⊢
      exact ⟨_, hk, hz⟩
theorem owes_lookup (hty : ∀ t i, E.ty t = some i → tiOf P t = some i) (t : TypeId) (x i : Operand) (ok : Bool) (h : o.op = .lookup t x i ok) : Owes P C ρ0 Q o st (calm (opLookup E.ty st o.dst t (opnd st.tm x) (opnd st.tm i) ok)) := by
  intro k kp hk ρ a w H next Qx hn _
  have hx := opnd_rel H.tm x
  have hi := opnd_rel H.tm i
  unfold calm opLookup at hk
  split at hk
  next ti hti =>
   split at hk
   next kt et hmp =>
    have hu := tiOf_mp (hty _ _ hti) hmp
    split at hk
    next te hte =>
     obtain ⟨z, hz, hzr⟩ := zero_run hty hte ρ
     split at hk
     next =>
      split at hk
      next b hxe =>
       rw [hxe] at hx
       simp only [SV.Rel] at hx
       obtain ⟨g, hg, hx⟩ := hx
       split at hk
       next ob hob =>
        obtain ⟨G, R', hr, hp, _⟩ := H.hp.focus hob
        split at hk
        next kk es =>
         obtain ⟨g', m, hg', hm, hG⟩ := hr
         rw [hg] at hg'; cases hg'
         split at hk
         next kk' hkk =>
          split at hk
          next heq =>
           have heq' : kk = kk' := by simpa using heq
           subst heq'
           split at hk
           next hnon =>
            have : kk = .non := by
              cases kk <;> first | rfl | (exfalso; simp [isNon] at hnon)
            subst this
            have hes : es = [] := by
              cases es with
              | nil => rfl
              | cons e _ => exact (nomatch e.1)
            subst hes
            have hm' : m = [] := hm
            subst hm'
            split at hk
            next l hie =>
             rw [hie] at hi
             simp only [SV.Rel] at hi
             obtain ⟨cs, hi, hcs⟩ := hi
             split at hk
             next tk htk =>
              split at hk
              next fs hfs =>
               split at hk
               next hfl =>
                obtain ⟨y, hk, hy⟩ := luV_snd hk (v := none) hzr ⟨fun _ e => (by cases e), fun _ => rfl⟩
                refine wp_value ?_ (hn _ ρ _ _ (put_ag _ _ _) (H.put o.dst hy) hk)
                obtain ⟨es', clock, hb, hes', _⟩ := hp.map hG
                have hes'' : es' = #[] := by
                  have : es'.toList = [] := by simpa using hes'
                  simpa using this
                subst hes''
                have hck := checkKey_flat hty htk hfs hfl hcs true w
                obtain ⟨F, hF, _⟩ := tiOf_st (hty _ _ htk) hfs
                have hrun := run_lookup_empty hb hu hF hck (hz w) ok
                simp only [execOp, h, hx, hi, Sem.run_bind, hrun, Result.andThen, Sem.run_pure]
                rfl
               · exact hk.elim
              · exact hk.elim
             · exact hk.elim
            · exact hk.elim
           next hnon =>
            have hne := isNon_ne (by simpa using hnon)
            split at hk
            next c hc =>
             have hiv := KK.key_rel hc hi
             have L := keyLaw_of hty hkk hne
             obtain ⟨mv, hmv, hget⟩ := MR.get kk.beq_spec hm c rfl
             obtain ⟨y, hk, hy⟩ := luV_snd hk (v := mv) hzr ⟨fun y e => (by rw [e] at hget; exact hget), fun e => (by rw [e] at hget; exact hget)⟩
             subst hmv
             refine wp_value ?_ (hn _ ρ _ _ (put_ag _ _ _) (H.put o.dst hy) hk)
             have := run_map_lookup L hu (hp.map hG) c z (hz w) ok
             simp only [execOp, h, hx, hiv, Sem.run_bind, this, Result.andThen, Sem.run_pure]
            · exact hk.elim
          · exact hk.elim
         · exact hk.elim
        · exact hk.elim
       · exact hk.elim
      · exact hk.elim
     · exact hk.elim
    · exact hk.elim
   · exact hk.elim
  · exact hk.elim

noncomputable def opMapSet (ty : TypeId → Option TI) (st : St) (d : Option Nat) (t : TypeId) (x i v : SV) (k : St → Tree) : Tree := match ty t with
  | some ti => (match ti.k with
    | .mp kt _ => (match x with
      | .m b => (match st.hp.get b with
        | some o => (match o with
          | .mp kk es => (match kkOf ty kt with
            | some kk' => if decide (kk = kk') && !isNon kk then (match kk.key i with
                | some c => k (St.rec (motive := fun _ => St) (fun tm hp nx df => ⟨put tm d .none_, hp.set b (.mp kk (eSet kk.beq es c v)), nx, df⟩) st)
                | none => .fail 430) else .fail 431
            | none => .fail 432)
          | _ => .fail 433)
        | none => .fail 434)
      | _ => .fail 435)
    | _ => .fail 436)
  | none => .fail 437
theorem owes_mapSet (hty : ∀ t i, E.ty t = some i → tiOf P t = some i) (t : TypeId) (x i v : Operand) (h : o.op = .mapUpdate t x i v ∨ o.op = .insert t x i v) : Owes P C ρ0 Q o st (calm (opMapSet E.ty st o.dst t (opnd st.tm x) (opnd st.tm i) (opnd st.tm v))) := by
  intro k kp hk ρ a w H next Qx hn _
  have hx := opnd_rel H.tm x
  have hi := opnd_rel H.tm i
  have hv := opnd_rel H.tm v
  unfold calm opMapSet at hk
  split at hk
  next ti hti =>
   split at hk
   next kt et hmp =>
    have hu := tiOf_mp (hty _ _ hti) hmp
    split at hk
    next b hxe =>
     rw [hxe] at hx
     simp only [SV.Rel] at hx
     obtain ⟨g, hg, hx⟩ := hx
     split at hk
     next ob hob =>
      obtain ⟨G, R', hr, hp, hback⟩ := H.hp.focus hob
      split at hk
      next kk es =>
       obtain ⟨g', m, hg', hm, hG⟩ := hr
       rw [hg] at hg'; cases hg'
       split at hk
       next kk' hkk =>
        split at hk
        next heq =>
         simp only [Bool.and_eq_true, decide_eq_true_eq, Bool.not_eq_true'] at heq
         obtain ⟨heq', hnon⟩ := heq
         subst heq'
         split at hk
         next c hc =>
          have hiv := KK.key_rel hc hi
          have L := keyLaw_of hty hkk (isNon_ne hnon)
          obtain ⟨w', hrun, hm', hf⟩ := run_map_set L hu (hp.map hG) c (a.eval v)
          obtain ⟨G', hG', hp'⟩ := hp.mapPut hG hm' hf
          have hh := hback w' (.mp kk (eSet kk.beq es c (opnd st.tm v))) G' ⟨g, _, hg, MR.set kk.beq_spec hv hm c, hG'⟩ hp'
          refine wp_skip (w' := w') ?_ (hn _ ρ _ _ (put_ag _ _ _) ((H.heap hh).put o.dst (x := .none_) (by simp only [SV.Rel])) hk)
          rcases h with h | h <;> simp only [execOp, h, hx, hiv, Sem.run_bind, hrun, Result.andThen, Sem.run_pure]
         · exact hk.elim
        · exact hk.elim
       · exact hk.elim
      · exact hk.elim
     · exact hk.elim
    · exact hk.elim
   · exact hk.elim
  · exact hk.elim

noncomputable def opMapDel (ty : TypeId → Option TI) (st : St) (d : Option Nat) (t : TypeId) (x i : SV) (k : St → Tree) : Tree := match ty t with
  | some ti => (match ti.k with
    | .mp kt _ => (match x with
      | .m b => (match st.hp.get b with
        | some o => (match o with
          | .mp kk es => (match kkOf ty kt with
            | some kk' => if decide (kk = kk') && !isNon kk then (match kk.key i with
                | some c => k (St.rec (motive := fun _ => St) (fun tm hp nx df => ⟨put tm d (.tup []), hp.set b (.mp kk (eDel kk.beq es c)), nx, df⟩) st)
                | none => .fail 440) else .fail 441
            | none => .fail 442)
          | _ => .fail 443)
        | none => .fail 444)
      | _ => .fail 445)
    | _ => .fail 446)
  | none => .fail 447
theorem owes_mapDel (hty : ∀ t i, E.ty t = some i → tiOf P t = some i) (c0 : Call) (t t' : TypeId) (x i : Operand) (h : o.op = .call c0) (hc : c0.callee = .builtin .delete) (ha : c0.args = #[x, i]) (ht : c0.argTypes = #[t, t']) :
    Owes P C ρ0 Q o st (calm (opMapDel E.ty st o.dst t (opnd st.tm x) (opnd st.tm i))) := by
  intro k kp hk ρ a w H next Qx hn _
  have hx := opnd_rel H.tm x
  have hi := opnd_rel H.tm i
  unfold calm opMapDel at hk
  split at hk
  next ti hti =>
   split at hk
   next kt et hmp =>
    have hu := tiOf_mp (hty _ _ hti) hmp
    split at hk
    next b hxe =>
     rw [hxe] at hx
     simp only [SV.Rel] at hx
     obtain ⟨g, hg, hx⟩ := hx
     split at hk
     next ob hob =>
      obtain ⟨G, R', hr, hp, hback⟩ := H.hp.focus hob
      split at hk
      next kk es =>
       obtain ⟨g', m, hg', hm, hG⟩ := hr
       rw [hg] at hg'; cases hg'
       split at hk
       next kk' hkk =>
        split at hk
        next heq =>
         simp only [Bool.and_eq_true, decide_eq_true_eq, Bool.not_eq_true'] at heq
         obtain ⟨heq', hnon⟩ := heq
         subst heq'
         split at hk
         next c hc' =>
          have hiv := KK.key_rel hc' hi
          have L := keyLaw_of hty hkk (isNon_ne hnon)
          obtain ⟨w', hrun, hm', hf⟩ := run_map_del L hu (hp.map hG) c o.type t'
          obtain ⟨G', hG', hp'⟩ := hp.mapPut hG hm' hf
          have hh := hback w' (.mp kk (eDel kk.beq es c)) G' ⟨g, _, hg, MR.del kk.beq_spec hm c, hG'⟩ hp'
          refine wp_value (v := .tuple #[]) (w' := w') ?_ (hn _ ρ _ _ (put_ag _ _ _) ((H.heap hh).put o.dst (x := .tup []) (by simp only [SV.Rel]; exact ⟨#[], rfl, .nil⟩)) hk)
          simp [execOp, h, resolve, hc, ha, ht, hx, hiv, invoke, builtin, hrun]
         · exact hk.elim
        · exact hk.elim
       · exact hk.elim
      · exact hk.elim
     · exact hk.elim
    · exact hk.elim
   · exact hk.elim
  · exact hk.elim
noncomputable def opMapLen (ty : TypeId → Option TI) (st : St) (d : Option Nat) (t : TypeId) (x : SV) (k : St → Tree) : Tree := match ty t with
  | some ti => (match ti.k with
    | .mp _ _ => (match x with
      | .nm => ret st d (.l .i64 0) k
      | .m b => (match st.hp.get b with
        | some o => (match o with
          | .mp _ es => ret st d (.l .i64 (es.length : Int)) k
          | _ => .fail 450)
        | none => .fail 451)
      | _ => .fail 452)
    | _ => .fail 453)
  | none => .fail 454
theorem owes_mapLen (hty : ∀ t i, E.ty t = some i → tiOf P t = some i) (c0 : Call) (t : TypeId) (x : Operand) (h : o.op = .call c0) (hc : c0.callee = .builtin .len) (ha : c0.args = #[x]) (ht : c0.argTypes = #[t]) :
    Owes P C ρ0 Q o st (calm (opMapLen E.ty st o.dst t (opnd st.tm x))) := by
  intro k kp hk ρ a w H next Qx hn _
  have hx := opnd_rel H.tm x
  unfold calm opMapLen at hk
  split at hk
  next ti hti =>
   split at hk
   next kt et hmp =>
    have hu := tiOf_mp (hty _ _ hti) hmp
    split at hk
    next hxe =>
      rw [hxe] at hx
      simp only [SV.Rel] at hx
      refine wp_value (v := .int .i64 0) ?_ (hn _ ρ _ _ (put_ag _ _ _) (H.put o.dst (x := .l .i64 0) (by simp only [SV.Rel])) hk)
      simp [execOp, h, resolve, hc, ha, ht, hx, invoke, builtin, Builtin.len_, run_underlying hu, goInt]
    next b hxe =>
     rw [hxe] at hx
     simp only [SV.Rel] at hx
     obtain ⟨g, hg, hx⟩ := hx
     split at hk
     next ob hob =>
      obtain ⟨G, R', hr, hp, hback⟩ := H.hp.focus hob
      split at hk
      next kk es =>
       obtain ⟨g', m, hg', hm, hG⟩ := hr
       rw [hg] at hg'; cases hg'
       have hrun := run_map_len hu (hp.map hG) o.type
       rw [hm.length] at hrun
       refine wp_value (v := .int .i64 (es.length : Int)) ?_ (hn _ ρ _ _ (put_ag _ _ _) (H.put o.dst (x := .l .i64 (es.length : Int)) (by simp only [SV.Rel])) hk)
       simp [execOp, h, resolve, hc, ha, ht, hx, invoke, builtin, hrun]
      · exact hk.elim
     · exact hk.elim
    · exact hk.elim
   · exact hk.elim
  · exact hk.elim
end
end SX
end Go.Proofs.YtnjaaagiindclaaGreatDoor

/-
  SX: rows that are made and appended to. No program in sight.
-/
namespace Go.Proofs.YtnjaaagiindclaaGreatDoor
open Go.RowKit Go.Deep
namespace SX

section
variable {P : Program} {w w' : World}
theorem run_append_room_any (t tx ty e : TypeId) (i : TypeInfo) (ht : P.underlying t = some (.slice e)) (hi : P.info? e = some i) (b off sLen sCap : Nat) (x : Value) (n : Nat) (news : List Value) (hs : Src P i.size tx x n news w)
    (hroom : sLen + n ≤ sCap) (hst : (storeCells ⟨b, off + sLen * i.size, none⟩ news).run P w = .ok () w') :
    (Builtin.append_ #[t, tx] ty #[.slice (some ⟨b, off, none⟩) sLen sCap, x]).run P w = .ok (.slice (some ⟨b, off, none⟩) (sLen + n) sCap) w' := by
  rcases hs.kind with ⟨e', hk⟩ | hk <;> simp [Builtin.append_, run_underlying ht, run_underlying hk, sizeOf, typeInfo, hi, hs.len, hroom, hs.cells, Addr.add_lit, hst]

/-- a row that an append leaves -/
def Grown (T sz : Nat) (v : Value) (n : Nat) (xs : List Value) (cap : Nat) (G : Grp) : Prop :=
  ∃ g cur, v = .slice (some ⟨g, 0, none⟩) n cap ∧ G = [(g, .cells cur T (0, 0))] ∧ n ≤ cap ∧ cap ≤ maxLen ∧ cur.size = cap * sz ∧ cur.toList.take (n * sz) = xs

theorem app_core {T S tx sz bytes n m : Nat} {i : TypeInfo} {z v u : Value} {xs news : List Value} {I : World} {G : Grp} {R : List Grp} {cap0 : Nat} {a : Option Addr} (ty : TypeId)
    (hU : P.underlying S = some (.slice T)) (hi : P.info? T = some i) (hz : i.zero = some z) (hsz : i.size = sz) (hby : i.bytes = bytes) (hzs : z.cells.size = sz) (h0 : 0 < sz) (hB : bytes ≤ 1024)
    (hv : v = .slice a n cap0) (hn : n ≤ cap0) (hd : (cap0 = 0 ∧ G = [] ∧ xs = []) ∨ ∃ g cur, a = some ⟨g, 0, none⟩ ∧ G = [(g, .cells cur T (0, 0))] ∧ cap0 ≤ maxLen ∧ cur.size = cap0 * sz ∧ cur.toList.take (n * sz) = xs)
    (h : Hp I w (G :: R)) (hs : Src P sz tx u m news w) (hm : 0 < m) (hnm : n + m ≤ 68719476736) :
    ∃ v' w' G' cap, (Builtin.append_ #[S, tx] ty #[v, u]).run P w = .ok v' w' ∧ Hp I w' (G' :: R) ∧ Grown T sz v' (n + m) (xs ++ news) cap G' := by
  subst hsz hby
  have hml : (n + m) ≤ maxLen := by simp only [maxLen]; omega
  have hfit : ∀ c, c < n + m → Builtin.nextslicecap (n + m) c * i.bytes ≤ 281474976710656 := fun c hc => growslice_fits hc (Nat.le_trans (Nat.mul_le_mul hnm hB) (by decide))
  have grow : ∀ olds : List Value, olds.length = n * i.size → (Builtin.firstCells i.size n (.slice a n cap0)).run P w.drew = .ok olds.toArray w.drew → olds = xs → cap0 < n + m → Hp I w R →
      ∃ v' w' G' cap, (Builtin.append_ #[S, tx] ty #[v, u]).run P w = .ok v' w' ∧ Hp I w' (G' :: R) ∧ Grown T i.size v' (n + m) (xs ++ news) cap G' := by
    intro olds hol hold he hc hR
    subst he
    have hr := run_append_grow_src w S tx ty T i z hU hi hz a n cap0 olds hold u m news hs hc (by simp only [maxLen] at hml; omega) (hfit _ hc)
    have hge := grownCap_ge w (n + m) cap0 T
    have hgl := grownCap_le_maxLen w (n + m) cap0 T hml
    refine ⟨_, _, _, _, by rw [hv]; exact hr, hR.drew.new _, w.heap.size, _, rfl, rfl, hge, hgl, ?_, ?_⟩
    · simp only [Array.size_append, List.size_toArray, List.length_append, hol, hs.newsLen, size_zeroCells, hzs]
      rw [← Nat.add_mul, ← Nat.add_mul]
      congr 1
      omega
    · simp only [Array.toList_append]
      rw [List.take_append_of_le_length (by simp only [List.length_append, hol, hs.newsLen]; rw [← Nat.add_mul]; exact Nat.le_refl _), List.take_of_length_le (by simp only [List.length_append, hol, hs.newsLen]; rw [← Nat.add_mul]; exact Nat.le_refl _)]
  rcases hd with ⟨rfl, rfl, rfl⟩ | ⟨g, cur, rfl, rfl, hcm, hcs, hct⟩
  · have hn0 : n = 0 := by omega
    subst hn0
    refine grow [] (by simp) ?_ rfl (by omega) h.unnil
    cases a <;> simp [Builtin.firstCells, loadCells, loadCellsFrom]
  · by_cases hroom : n + m ≤ cap0
    · have hlen : n * i.size + news.length ≤ cur.size := by rw [hs.newsLen, hcs, ← Nat.add_mul]; exact Nat.mul_le_mul_right _ hroom
      have hst := run_storeCells_at (P := P) g (n * i.size) T news 0 cur w h.blk (by simpa using hlen) hs.one
      simp only [Nat.add_zero] at hst
      have hr := run_append_room_any S tx ty T i hU hi g 0 n cap0 u m news hs hroom (by rw [Nat.zero_add]; exact hst)
      refine ⟨_, _, _, _, by rw [hv]; exact hr, hp_setRow h, g, _, rfl, rfl, hroom, hcm, ?_, ?_⟩
      · simp only [List.size_toArray, List.length_append, List.length_take, List.length_drop, Array.length_toList]; omega
      · rw [List.toList_toArray, hct]
        have hxl : xs.length = n * i.size := by rw [← hct, List.length_take, Array.length_toList]; omega
        rw [List.take_append_of_le_length (by rw [List.length_append, hxl, hs.newsLen, Nat.add_mul]; exact Nat.le_refl _), List.take_of_length_le (by rw [List.length_append, hxl, hs.newsLen, Nat.add_mul]; exact Nat.le_refl _)]
    · refine grow (cur.toList.take (n * i.size)) ?_ ?_ hct (by omega) h.drop
      · rw [List.length_take, Array.length_toList, hcs, Nat.min_eq_left (Nat.mul_le_mul_right _ hn)]
      · refine run_firstCells_some w.drew i.size n ⟨g, 0, none⟩ n cap0 _ ?_ fun j u hj => ?_
        · rw [List.length_take, Array.length_toList, hcs, Nat.min_eq_left (Nat.mul_le_mul_right _ hn)]
        · rw [add_plain', Nat.zero_add]
          have h1 := h.blk
          have h2 : w.drew.cell? ⟨g, j, none⟩ = cur[j]? := by
            have := cell_blk h1 j
            simpa using this
          rw [h2]
          rw [List.getElem?_take] at hj
          split at hj
          · simpa using hj
          · cases hj
end

section
variable {P : Program} {C : Ctx} {ρ0 : Ren} {Q : Ex → St → Prop} {o : Oper} {st : St} {E : Env}

/-- what is known of a source's cells; how many elements -/
noncomputable def srcOf (h : Heap) (sz : Nat) (x : SV) : Option (List SV × Nat) := match x with
  | .ns => some ([], 0)
  | .t l => if Nat.beq sz 1 then some (l.map (fun b => SV.l .u8 (b.toNat : Int)), l.length) else none
  | .sl lit b sz' frm m _ => if lit && Nat.beq sz sz' then (match h.get b with
    | some o => (match o with
      | .cells _ cs => (match seg cs (frm * sz') (m * sz') with | some vs => if oneL vs then some (vs, m) else none | none => none)
      | .vec _ _ cs _ => (match seg cs (frm * sz') (m * sz') with | some vs => if oneL vs then some (vs, m) else none | none => none)
      | _ => none)
    | none => none) else none
  | _ => none
theorem srcOf_snd {h : Heap} {sz : Nat} {x : SV} {vs : List SV} {m : Nat} (hs : srcOf h sz x = some (vs, m)) {ρ : Ren} {w : World} (H : Holds C ρ h w) {u : Value} (hx : x.Rel ρ u) {tx : TypeId} (_ : (∃ e', P.underlying tx = some (.slice e')) ∨ P.underlying tx = some .string)
    (hsl : isT x = false → ∃ e', P.underlying tx = some (.slice e')) (hst : isT x = true → P.underlying tx = some .string) :
    ∃ news, RelL ρ vs news ∧ Src P sz tx u m news w := by
  unfold srcOf at hs
  split at hs
  next =>
    simp only [Option.some.injEq, Prod.mk.injEq] at hs
    obtain ⟨rfl, rfl⟩ := hs
    simp only [SV.Rel] at hx
    subst hx
    obtain ⟨e', he⟩ := hsl rfl
    exact ⟨[], .nil, Src.ofNil w he 0⟩
  next l =>
    split at hs
    next hb =>
      have := Nat.eq_of_beq_eq_true hb
      subst this
      simp only [Option.some.injEq, Prod.mk.injEq] at hs
      obtain ⟨rfl, rfl⟩ := hs
      simp only [SV.Rel] at hx
      subst hx
      refine ⟨byteCells (bytesOf l), ?_, ?_⟩
      · unfold byteCells
        exact RelL.map fun b _ => by simp only [SV.Rel]
      · have := Src.ofString (P := P) w (hst rfl) (bytesOf l)
        have e : (bytesOf l).size = l.length := by simp [bytesOf, ByteArray.size]
        rw [e] at this
        exact this
    · cases hs
  next lit b sz' frm m' cap0 =>
    split at hs
    next hb =>
      simp only [Bool.and_eq_true] at hb
      have := Nat.eq_of_beq_eq_true hb.2
      subst this
      simp only [SV.Rel] at hx
      obtain ⟨a, cap, rfl, hci, hle, haB⟩ := hx
      have ha := slB (f := fun g => ⟨g, frm * sz, none⟩) hci haB
      obtain ⟨e', he⟩ := hsl rfl
      have fin : ∀ (r : List SV), (ldT h b (.c (frm * sz)) (m' * sz) fun vs => if oneL vs then Tree.need (vs = r) .stop else .fail 0).den (fun _ _ => True) → ∃ news, RelL ρ r news ∧ Src P sz tx (.slice a m' cap) m' news w := by
        intro r hk
        obtain ⟨vs', us, hk, hr, hl, hc⟩ := ldT_snd hk H
        split at hk
        next h1 =>
          have hk' : vs' = r := hk.1
          subst hk'
          refine ⟨us, hr, ?_⟩
          have hone := oneL_cell h1 hr
          by_cases hc0 : 0 < cap
          · obtain ⟨g, hg, rfl⟩ := ha hc0
            exact Src.ofSlice w he ⟨g, frm * sz, none⟩ m' cap us hl (fun j u hj => by rw [add_plain']; exact hc g hg j u hj) hone
          · have hm0 : m' = 0 := by omega
            subst hm0
            have hus : us = [] := List.eq_nil_of_length_eq_zero (by simpa using hl)
            subst hus
            cases a with
            | none => exact Src.ofNil w he cap
            | some a => exact Src.ofSlice w he a 0 cap [] (by simp) (by simp) (by simp)
        · exact hk.elim
      split at hs
      next ob hob =>
        split at hs
        next t cs =>
          split at hs
          next vs' hseg =>
            split at hs
            next h1 =>
              simp only [Option.some.injEq, Prod.mk.injEq] at hs
              obtain ⟨rfl, rfl⟩ := hs
              refine fin vs' ?_
              unfold ldT
              simp only [hob, hseg, h1, if_true]
              exact ⟨trivial, fun _ => trivial⟩
            · cases hs
          · cases hs
        next t sz2 cs cp =>
          split at hs
          next vs' hseg =>
            split at hs
            next h1 =>
              simp only [Option.some.injEq, Prod.mk.injEq] at hs
              obtain ⟨rfl, rfl⟩ := hs
              refine fin vs' ?_
              unfold ldT
              simp only [hob, hseg, h1, if_true]
              exact ⟨trivial, fun _ => trivial⟩
            · cases hs
          · cases hs
        · cases hs
      · cases hs
    · cases hs
  · cases hs

/-- what is known of a row that is appended to -/
noncomputable def dstOf (h : Heap) (t : TypeId) (sz : Nat) (x : SV) : Option (List SV × Nat × Option (Nat × Cap × Cap)) := match x with
  | .ns => some ([], 0, none)
  | .sl lit b sz' frm n c => if lit && (Nat.beq sz sz' && Nat.beq frm 0) then (match h.get b with
    | some o => (match o with
      | .vec t' sz2 cs cap => if Nat.beq t t' && Nat.beq sz sz2 then (match seg cs 0 (n * sz') with | some vs => some (vs, n, some (b, c, cap)) | none => none) else none
      | _ => none)
    | none => none) else none
  | _ => none
/-- the old row is let go; the new one stands under a number of its own -/
def sameC (c c' : Cap) (T : Tree) : Tree := match c with
  | .c x => (match c' with | .c y => if Nat.beq x y then T else .fail 470 | .v y => .need (x = y) T | .o _ _ => .fail 471 | .zr => .fail 475)
  | .v x => (match c' with | .c y => .need (x = y) T | .v y => .need (x = y) T | .o _ _ => .fail 472 | .zr => .fail 475)
  | .zr => (match c' with | .c y => if Nat.beq 0 y then T else .fail 470 | _ => .fail 475)
  | .o i m => (match c' with | .o j m' => if Nat.beq i j && Nat.beq m m' then T else .fail 473 | _ => .fail 474)
theorem sameC_snd {Q : Ex → St → Prop} {c c' : Cap} {T : Tree} (h : (sameC c c' T).den Q) {ρ : Ren} {z z' : Nat} (r : c.Is ρ z) (r' : c'.Is ρ z') : z = z' ∧ T.den Q := by
  cases c with
  | c x =>
    cases c' with
    | c y =>
      simp only [sameC] at h
      split at h
      next e => have := Nat.eq_of_beq_eq_true e; subst this; exact ⟨Eq.trans r (Eq.symm r'), h⟩
      · exact h.elim
    | v y => exact ⟨Eq.trans r (h.1.trans (Eq.symm r')), h.2 h.1⟩
    | o i m => exact h.elim
    | zr => exact h.elim
  | v x =>
    cases c' with
    | c y => exact ⟨Eq.trans r (h.1.trans (Eq.symm r')), h.2 h.1⟩
    | v y => exact ⟨Eq.trans r (h.1.trans (Eq.symm r')), h.2 h.1⟩
    | o i m => exact h.elim
    | zr => exact h.elim
  | zr =>
    cases c' with
    | c y =>
      simp only [sameC] at h
      split at h
      next e => have := Nat.eq_of_beq_eq_true e; subst this; exact ⟨Eq.trans r (Eq.symm r'), h⟩
      · exact h.elim
    | v y => exact h.elim
    | o i m => exact h.elim
    | zr => exact h.elim
  | o i m =>
    cases c' with
    | c y => exact h.elim
    | v y => exact h.elim
    | zr => exact h.elim
    | o j m' =>
      simp only [sameC] at h
      split at h
      next e =>
        simp only [Bool.and_eq_true] at e
        have e1 := Nat.eq_of_beq_eq_true e.1
        have e2 := Nat.eq_of_beq_eq_true e.2
        subst e1 e2
        exact ⟨r.uniq r', h⟩
      · exact h.elim
noncomputable def appT (st : St) (d : Option Nat) (T sz : Nat) (vs : List SV) (n : Nat) (old : Option (Nat × Cap × Cap)) (k : St → Tree) : Tree :=
  let go (hp : Heap) : Tree := k { st with tm := put st.tm d (.sl true st.nx sz 0 n (.o (st.nx + 1) 0)), hp := (st.nx, .vec T sz vs (.o (st.nx + 1) 0)) :: hp, nx := st.nx + 1 + 1 }
  match old with
  | none => go st.hp
  | some (b, c, cap) => sameC c cap (go (st.hp.set b .gone))
def kindOk (k : TK) (t : Bool) : Bool := match k with
  | .sli .. => !t
  | .str => t
  | _ => false
noncomputable def opApp (ty : TypeId → Option TI) (st : St) (d : Option Nat) (S tx : TypeId) (x y : SV) (k : St → Tree) : Tree := match ty S with
  | some ti => (match ti.k with
    | .sli T _ => (match ty T with
      | some te => (match ty tx with
        | some tj => if kindOk tj.k (isT y) && (Nat.ble te.bytes 1024 && !Nat.beq te.sz 0) then
          (match srcOf st.hp te.sz y with
            | some (us, m) => if Nat.beq m 0 then (match x with
                | .ns => if isT y then .fail 460 else ret st d .ns k
                | .sl l b s f n c => if isT y then .fail 460 else ret st d (.sl l b s f n c) k
                | _ => .fail 461)
              else (match dstOf st.hp T te.sz x with
                | some (vs, n, old) => if Nat.ble (n + m) 68719476736 then appT st d T te.sz (vs ++ us) (n + m) old k else .fail 462
                | none => .fail 463)
            | none => .fail 464) else .fail 465
        | none => .fail 466)
      | none => .fail 467)
    | _ => .fail 468)
  | none => .fail 469
theorem zero_size {i : TI} {T : TypeId} (hty : ∀ t i, E.ty t = some i → tiOf P t = some i) (h : E.ty T = some i) : ∃ f z, P.info? T = some f ∧ f.zero = some z ∧ f.size = i.sz ∧ f.bytes = i.bytes ∧ z.cells.size = i.sz ∧ ∀ ρ, RelL ρ i.zero z.cells.toList := by
  obtain ⟨f, z, d, hf, hz, hd, e, _, hs⟩ := tiOf_d (hty _ _ h)
  obtain ⟨⟨f', z', h1, h2, h3, h4, h5⟩, _⟩ := tiOf_is (hty _ _ h)
  rw [hf] at h1; cases h1
  rw [hz] at h3; cases h3
  exact ⟨f, z, hf, hz, h2, h4, by rw [hs, h2], h5⟩
theorem run_append_none {w : World} {S ty e : TypeId} {i : TypeInfo} (ht : P.underlying S = some (.slice e)) (hi : P.info? e = some i) {tx : TypeId} {n c : Nat} {a : Option Addr} {u : Value} (hs : Src P i.size tx u 0 [] w) (hn : n ≤ c) :
    (Builtin.append_ #[S, tx] ty #[.slice a n c, u]).run P w = .ok (.slice a n c) w := by
  rcases hs.kind with ⟨e', hk⟩ | hk <;> cases a <;> simp [Builtin.append_, run_underlying ht, run_underlying hk, sizeOf, typeInfo, hi, hs.len, hn, hs.cells, storeCells]
theorem owes_app (hty : ∀ t i, E.ty t = some i → tiOf P t = some i) (c0 : Call) (S tx : TypeId) (x y : Operand) (h : o.op = .call c0) (hc : c0.callee = .builtin .append) (ha : c0.args = #[x, y]) (ht : c0.argTypes = #[S, tx]) :
    Owes P C ρ0 Q o st (calm (opApp E.ty st o.dst S tx (opnd st.tm x) (opnd st.tm y))) := by
  intro k kp hk ρ a w H next Qx hn _
  have hx := opnd_rel H.tm x
  have hy := opnd_rel H.tm y
  unfold calm opApp at hk
  split at hk
  next ti hti =>
   split at hk
   next T s0 hsl =>
    obtain ⟨hU, _⟩ := tiOf_sli (hty _ _ hti) hsl
    split at hk
    next te hte =>
     obtain ⟨f, z, hf, hz, hsz, hby, hzs, hzr⟩ := zero_size hty hte
     split at hk
     next tj htj =>
      split at hk
      next hcond =>
       simp only [Bool.and_eq_true, Bool.not_eq_true'] at hcond
       obtain ⟨hkind, hb1, hb2⟩ := hcond
       have hB := Nat.le_of_ble_eq_true hb1
       have hpos : 0 < te.sz := by
         rcases Nat.eq_zero_or_pos te.sz with e | e
         · rw [e] at hb2; simp at hb2
         · exact e
       have hkS : isT (opnd st.tm y) = false → ∃ e', P.underlying tx = some (.slice e') := by
         intro e
         unfold kindOk at hkind
         split at hkind
         next q r hq => exact ⟨_, (tiOf_sli (hty _ _ htj) hq).1⟩
         next hq => rw [e] at hkind; cases hkind
         · cases hkind
       have hkT : isT (opnd st.tm y) = true → P.underlying tx = some .string := by
         intro e
         unfold kindOk at hkind
         split at hkind
         next q r hq => rw [e] at hkind; cases hkind
         next hq => exact tiOf_str (hty _ _ htj) hq
         · cases hkind
       have hkk : (∃ e', P.underlying tx = some (.slice e')) ∨ P.underlying tx = some .string := by
         cases e : isT (opnd st.tm y) with
         | true => exact .inr (hkT e)
         | false => exact .inl (hkS e)
       split at hk
       next us m hsrc =>
        obtain ⟨news, hnr, hsrc'⟩ := srcOf_snd hsrc H.hp hy hkk hkS hkT
        have wpv : ∀ v w' (K : World → Prop), (Builtin.append_ #[S, tx] o.type #[a.eval x, a.eval y]).run P w = .ok v w' → next (a.put o.dst v) w' → o.wp P a w next Qx := by
          intro v w' _ hr hK
          refine wp_value (v := v) (w' := w') ?_ hK
          simp [execOp, h, resolve, hc, ha, ht, invoke, builtin, hr]
        split at hk
        next hm =>
         have := Nat.eq_of_beq_eq_true hm
         subst this
         have hnews : news = [] := List.eq_nil_of_length_eq_zero (by rw [hsrc'.newsLen]; simp)
         subst hnews
         rw [← hsz] at hsrc'
         split at hk
         next hxe =>
          split at hk
          · exact hk.elim
          rw [hxe] at hx
          have hx' := hx
          simp only [SV.Rel] at hx'
          refine wpv _ _ (fun _ => True) ?_ (hn _ ρ _ _ (put_ag _ _ _) (H.put o.dst hx) hk)
          rw [hx']
          exact run_append_none hU hf hsrc' (Nat.le_refl _)
         next l b s f' n c hxe =>
          split at hk
          · exact hk.elim
          rw [hxe] at hx
          have hx' := hx
          simp only [SV.Rel] at hx'
          obtain ⟨ad, cz, hx', _, hle, _⟩ := hx'
          refine wpv _ _ (fun _ => True) ?_ (hn _ ρ _ _ (put_ag _ _ _) (H.put o.dst hx) hk)
          rw [hx']
          exact run_append_none hU hf hsrc' hle
         · exact hk.elim
        next hm =>
         have hm0 : 0 < m := by
           rcases Nat.eq_zero_or_pos m with e | e
           · exact absurd (by rw [e]; rfl) hm
           · exact e
         split at hk
         next vs n old hdst =>
          split at hk
          next hlen =>
           have hlen := Nat.le_of_ble_eq_true hlen
           have fin : ∀ (hp : Heap) (G0 : Grp) (R' : List Grp) (cap0 : Nat) (ad : Option Addr) (xs : List Value), a.eval x = .slice ad n cap0 → n ≤ cap0 →
               ((cap0 = 0 ∧ G0 = [] ∧ xs = []) ∨ ∃ g cur, ad = some ⟨g, 0, none⟩ ∧ G0 = [(g, .cells cur T (0, 0))] ∧ cap0 ≤ maxLen ∧ cur.size = cap0 * te.sz ∧ cur.toList.take (n * te.sz) = xs) →
               Hp C.I w (G0 :: R') → (∀ (ρ' : Ren) w' G', ρ.le ρ' → ρ' st.nx ≠ none → Hp C.I w' (G' :: R') → Rep C.B ρ' st.nx (.gone) [] → ∀ ob, Rep C.B ρ' st.nx ob G' → Holds C ρ' ((st.nx, ob) :: hp) w') → RelL ρ vs xs →
               (k { st with tm := put st.tm o.dst (.sl true st.nx te.sz 0 (n + m) (.o (st.nx + 1) 0)), hp := (st.nx, .vec T te.sz (vs ++ us) (.o (st.nx + 1) 0)) :: hp, nx := st.nx + 1 + 1 }).den Q →
               o.wp P a w next Qx := by
            intro hp G0 R' cap0 ad xs hv hle hd hHp hback hrel hk
            obtain ⟨v', w', G', cap, hrun, hHp', g, cur, rfl, rfl, hcl, hcm, hcs, hct⟩ := app_core (P := P) (w := w) (u := a.eval y) o.type hU hf hz hsz hby hzs hpos hB hv hle hd hHp hsrc' hm0 hlen
            have hbd1 : (upd ρ st.nx g).bd (st.nx + 1) := upd_bd H.bd
            let ρ2 := upd (upd ρ st.nx g) (st.nx + 1) cap
            have hle1 : (upd ρ st.nx g).le ρ2 := upd_le (hbd1 _ (Nat.le_refl _))
            have hle' : ρ.le ρ2 := (upd_le H.free).trans hle1
            have hat : ρ2 st.nx = some g := hle1 _ _ (upd_at _ _ _)
            have hcapI : (Cap.o (st.nx + 1) 0).Is ρ2 cap := ⟨cap, upd_at _ _ _, rfl⟩
            have hrv : RelL ρ2 (vs ++ us) (xs ++ news) := RelL.mono hle' _ _ (hrel.append hnr)
            have hl := hrv.length
            have hH := hback ρ2 w' _ hle' (by rw [hat]; simp) hHp' rfl (.vec T te.sz (vs ++ us) (.o (st.nx + 1) 0)) (by
              refine ⟨cap, hcapI, ?_, hcm, .inr ⟨g, cur, hat, rfl, hcs, ?_⟩⟩
              · rw [hl, ← hct, List.length_take]
                have : (n + m) * te.sz ≤ cap * te.sz := Nat.mul_le_mul_right _ hcl
                omega
              · have e : (vs ++ us).length = (n + m) * te.sz := by
                  rw [hl, ← hct, List.length_take, Array.length_toList, hcs]
                  have : (n + m) * te.sz ≤ cap * te.sz := Nat.mul_le_mul_right _ hcl
                  omega
                rw [e, hct]; exact hrv)
            refine wpv _ _ (fun _ => True) hrun (hn _ ρ2 _ _ (put_ag _ _ _) ?_ hk)
            have H' : HS C ρ0 ρ2 { st with hp := (st.nx, .vec T te.sz (vs ++ us) (.o (st.nx + 1) 0)) :: hp, nx := st.nx + 1 + 1 } a w' := ⟨hH, RelS.mono hle' H.tm, H.df.mono hle', upd_bd hbd1, H.le.trans hle'⟩
            exact H'.put o.dst (by simp only [SV.Rel]; exact ⟨_, cap, rfl, hcapI, hcl, fun _ => ⟨g, hat, fun _ => by simp⟩⟩)
           unfold appT at hk
           simp only at hk
           unfold dstOf at hdst
           split at hdst
           next hxe =>
            simp only [Option.some.injEq, Prod.mk.injEq] at hdst
            obtain ⟨rfl, rfl, rfl⟩ := hdst
            rw [hxe] at hx
            simp only [SV.Rel] at hx
            obtain ⟨Gs, hreps, hHp⟩ := H.hp
            refine fin st.hp [] (Gs ++ C.R) 0 none [] hx (Nat.le_refl _) (.inl ⟨rfl, rfl, rfl⟩) hHp.nil ?_ .nil hk
            intro ρ' w' G' hle _ hp' _ ob hob
            exact ⟨G' :: Gs, ⟨G', Gs, rfl, hob, hreps.mono hle⟩, hp'⟩
           next lit b sz' frm n' c hxe =>
            split at hdst
            next hb =>
             simp only [Bool.and_eq_true] at hb
             obtain ⟨_, hb2, hb3⟩ := hb
             have e2 := Nat.eq_of_beq_eq_true hb2
             have e3 := Nat.eq_of_beq_eq_true hb3
             subst e2 e3
             rw [hxe] at hx
             simp only [SV.Rel] at hx
             obtain ⟨ad, cz, hxv, hci, hle, hadB⟩ := hx
             have had := slB (f := fun g => ⟨g, 0 * te.sz, none⟩) hci hadB
             split at hdst
             next ob hob =>
              split at hdst
              next t' sz2 cs cap =>
               split at hdst
               next hb4 =>
                simp only [Bool.and_eq_true] at hb4
                have e4 := Nat.eq_of_beq_eq_true hb4.1
                have e5 := Nat.eq_of_beq_eq_true hb4.2
                split at hdst
                next vs' hseg =>
                 simp only [Option.some.injEq, Prod.mk.injEq] at hdst
                 obtain ⟨rfl, rfl, rfl⟩ := hdst
                 obtain ⟨hsl1, hvs⟩ := seg_some hseg
                 obtain ⟨Gs, hreps, hHp⟩ := H.hp
                 obtain ⟨pre, G0, post, rfl, hrep, hback⟩ := hreps.focus hob
                 obtain ⟨cz', hci', q1, q2, q3⟩ := hrep
                 obtain ⟨hcc, hk⟩ := sameC_snd hk hci hci'
                 subst hcc
                 have hHp1 : Hp C.I w (G0 :: (pre ++ (post ++ C.R))) := hHp.permG (by rw [List.append_assoc, List.cons_append]; exact List.perm_middle)
                 have hbk : ∀ (ρ' : Ren) w' G', ρ.le ρ' → ρ' st.nx ≠ none → Hp C.I w' (G' :: (pre ++ (post ++ C.R))) → Rep C.B ρ' st.nx (.gone) [] → ∀ ob, Rep C.B ρ' st.nx ob G' → Holds C ρ' ((st.nx, ob) :: st.hp.set b .gone) w' := by
                   intro ρ' w' G' hle' _ hp' _ ob hob
                   refine ⟨G' :: (pre ++ [] :: post), ⟨G', _, rfl, hob, hback ρ' .gone [] hle' rfl⟩, hp'.perm ?_⟩
                   simp
                 rcases q3 with ⟨rfl, rfl⟩ | ⟨g, cur, hg, rfl, q4, q5⟩
                 · have hn0 : n' = 0 := by omega
                   subst hn0
                   refine fin _ [] _ 0 ad [] hxv hle (.inl ⟨rfl, rfl, rfl⟩) hHp1 hbk ?_ hk
                   rw [hvs]; simpa using RelL.nil
                 · subst e4 e5
                   by_cases hc0 : 0 < cz
                   · obtain ⟨g', hg', rfl⟩ := had hc0
                     rw [hg] at hg'; cases hg'
                     refine fin _ _ _ cz _ (cur.toList.take (n' * te.sz)) hxv hle (.inr ⟨g, cur, by simp, rfl, q2, q4, rfl⟩) hHp1 hbk ?_ hk
                     rw [hvs, List.drop_zero]
                     have := q5.take (n' * te.sz)
                     rw [List.take_take, Nat.min_eq_left (by omega)] at this
                     exact this
                   · have hc00 : cz = 0 := by omega
                     subst hc00
                     have hn0 : n' = 0 := by omega
                     subst hn0
                     refine fin _ [] _ 0 ad [] hxv hle (.inl ⟨rfl, rfl, rfl⟩) hHp1.drop.nil hbk ?_ hk
                     rw [hvs]; simpa using RelL.nil
                · cases hdst
               · cases hdst
              · cases hdst
             · cases hdst
            · cases hdst
           · cases hdst
          · exact hk.elim
         · exact hk.elim
       · exact hk.elim
      · exact hk.elim
     · exact hk.elim
    · exact hk.elim
   · exact hk.elim
  · exact hk.elim
end
end SX
end Go.Proofs.YtnjaaagiindclaaGreatDoor

/-
  SX: rows of known parts; strings' bytes; interfaces. No program in sight.
-/
namespace Go.Proofs.YtnjaaagiindclaaGreatDoor
open Go.RowKit Go.Deep
namespace SX

/-- so many times the same cells -/
noncomputable def zerosR (z : List SV) (n : Nat) : List SV := Nat.rec (motive := fun _ => List SV) [] (fun _ ih => z ++ ih) n
def zerosV (z : List Value) : Nat → List Value
  | 0 => []
  | n + 1 => z ++ zerosV z n
theorem zerosR_rel {ρ : Ren} {z : List SV} {u : List Value} (h : RelL ρ z u) : ∀ n, RelL ρ (zerosR z n) (zerosV u n)
  | 0 => .nil
  | n + 1 => h.append (zerosR_rel h n)
theorem zerosV_len (u : List Value) : ∀ n, (zerosV u n).length = n * u.length
  | 0 => by simp [zerosV]
  | n + 1 => by simp only [zerosV, List.length_append, zerosV_len u n]; rw [Nat.add_mul]; omega
theorem zerosV_get {u : List Value} (h0 : 0 < u.length) : ∀ (n k : Nat), k < n * u.length → (zerosV u n)[k]? = u[k % u.length]?
  | 0, k, h => by simp at h
  | n + 1, k, h => by
    simp only [zerosV]
    rw [Nat.add_mul, Nat.one_mul] at h
    by_cases hk : k < u.length
    · rw [List.getElem?_append_left hk, Nat.mod_eq_of_lt hk]
    · rw [List.getElem?_append_right (by omega), zerosV_get h0 n (k - u.length) (by omega)]
      congr 1
      have := Nat.sub_add_cancel (Nat.le_of_not_lt hk)
      conv => rhs; rw [← this]
      rw [Nat.add_mod_right]
theorem madeCells_eq (z : Array Value) (h0 : 0 < z.size) (n : Nat) : (madeCells z (n * z.size)).toList = zerosV z.toList n := by
  apply List.ext_getElem?
  intro k
  by_cases hk : k < n * z.size
  · rw [zerosV_get (by simpa using h0) n k (by simpa using hk)]
    simp only [madeCells, Array.getElem?_toList, Array.getElem?_map, Array.getElem?_range, hk, if_true, Option.map_some, Array.length_toList]
    have hm : k % z.size < z.size := Nat.mod_lt _ h0
    rw [Array.getElem?_eq_getElem hm, getElem!_pos z _ hm]
  · rw [List.getElem?_eq_none (by simp [madeCells]; omega), List.getElem?_eq_none (by rw [zerosV_len]; simp; omega)]

noncomputable def fillG (sz : Nat) : List SV → List (Nat × SV) → Option (List SV)
  | cs, [] => some cs
  | cs, (i, x) :: r => if oneL (flatV x) && Nat.beq (flatV x).length sz then (match seg cs (i * sz) sz with
    | some _ => fillG sz (lsetL cs (i * sz) (flatV x)) r
    | none => none) else none
theorem fillG_snd {ρ : Ren} {sz : Nat} (g : Operand → SV) (f : Operand → Value) (hg : ∀ x, (g x).Rel ρ (f x)) : ∀ (parts : List (Nat × Operand)) (cs cs' : List SV) (c : Array Value), RelL ρ cs c.toList → fillG sz cs (parts.map fun p => (p.1, g p.2)) = some cs' →
    ∃ c', Instr.fill (fun i => some (i * sz, sz)) c (parts.map fun p => (p.1, f p.2)) = some c' ∧ RelL ρ cs' c'.toList
  | [], cs, cs', c, hr, h => by
    simp only [List.map_nil, fillG, Option.some.injEq] at h
    subst h
    exact ⟨c, rfl, hr⟩
  | (i, x) :: r, cs, cs', c, hr, h => by
    simp only [List.map_cons, fillG] at h
    split at h
    next hb =>
      simp only [Bool.and_eq_true, Nat.beq_eq] at hb
      obtain ⟨ho, hl⟩ := hb
      split at h
      next _ hseg =>
        obtain ⟨hle, _⟩ := seg_some hseg
        obtain ⟨hv, _⟩ := flatV_cells (hg x) ho
        have hvl : (f x).cells.size = sz := by rw [← hl, hv.length, Array.length_toList]
        have hcl : c.size = cs.length := by rw [hr.length, Array.length_toList]
        have hfold := fold_lsets (i * sz) (f x).cells.toList c (by rw [Array.length_toList]; omega)
        have hset := lsetL_rel hr (i * sz) hv
        rw [setsV_eq _ _ _ (by rw [Array.length_toList, Array.length_toList]; omega)] at hset
        obtain ⟨c', h1, h2⟩ := fillG_snd g f hg r _ cs' (((f x).cells.toList.zipIdx 0).foldl (fun cs (x : Value × Nat) => cs.setIfInBounds (i * sz + x.2) x.1) c) (by rw [hfold]; exact hset) h
        refine ⟨c', ?_, h2⟩
        simp only [List.map_cons]
        unfold Instr.fill
        simp only
        rw [if_neg (by simp; omega), ← h1]
        congr 1
        rw [← Array.foldl_toList, Array.toList_zipIdx]
      · cases h
    · cases h
section
variable {P : Program} {C : Ctx} {ρ0 : Ren} {Q : Ex → St → Prop} {o : Oper} {st : St} {E : Env}

/-- room for n, of a row that is new -/
def capN (n : Nat) : Cap := if Nat.beq n 0 then .zr else .c n
theorem capN_is (ρ : Ren) (n : Nat) : (capN n).Is ρ n := by
  unfold capN
  split
  next e => exact Nat.eq_of_beq_eq_true e
  next => rfl
/-- a new row, all known -/
noncomputable def newRowT (st : St) (d : Option Nat) (T sz : Nat) (cs : List SV) (n : Nat) (k : St → Tree) : Tree :=
  k (St.rec (motive := fun _ => St) (fun tm hp nx df => ⟨put tm d (.sl true nx sz 0 n (capN n)), (nx, .vec T sz cs (.c n)) :: hp, nx + 1, df⟩) st)
theorem newRowT_snd {ρ : Ren} {a : Act} {w : World} {d : Option Nat} {T sz n : Nat} {cs : List SV} {k : St → Tree} (hk : (newRowT st d T sz cs n k).den Q) (H : HS C ρ0 ρ st a w) {c : Array Value} (hc : RelL ρ cs c.toList) (hs : c.size = n * sz) (hn : n ≤ maxLen) :
    ∃ st' ρ', (k st').den Q ∧ Ag d.toList st.tm st'.tm ∧ HS C ρ0 ρ' st' (a.put d (.slice (some ⟨w.heap.size, 0, none⟩) n n)) (w.alloc (.cells c T)) := by
  have hl : cs.length = c.size := by have := hc.length; simpa using this
  have H' : HS C ρ0 (upd ρ st.nx w.heap.size) { st with hp := (st.nx, .vec T sz cs (.c n)) :: st.hp, nx := st.nx + 1 } a (w.alloc (.cells c T)) :=
    H.fresh ⟨n, rfl, by rw [hl, hs]; exact Nat.le_refl _, hn, .inr ⟨w.heap.size, c, upd_at _ _ _, rfl, hs, by
      rw [List.take_of_length_le (by rw [Array.length_toList, hl]; exact Nat.le_refl _)]
      exact RelL.mono (upd_le H.free) _ _ hc⟩⟩ fun Gs hp => hp.new _
  exact ⟨_, _, hk, put_ag _ _ _, H'.put d (by simp only [SV.Rel]; exact ⟨_, _, rfl, capN_is _ _, Nat.le_refl _, fun _ => ⟨_, upd_at _ _ _, by simp⟩⟩)⟩
noncomputable def opBuildSlice (ty : TypeId → Option TI) (st : St) (d : Option Nat) (t : TypeId) (len : Nat) (ps : List (Nat × SV)) (k : St → Tree) : Tree := match ty t with
  | some ti => (match ti.k with
    | .sli T _ => (match ty T with
      | some te => if Nat.beq te.sz 0 then .fail 500 else
        if Nat.beq len 0 then (match ps with | [] => newRowT st d T te.sz [] 0 k | _ => .fail 501) else
        if Nat.ble (len * te.sz) 16777216 then (match fillG te.sz (zerosR te.zero len) ps with
          | some cs => newRowT st d T te.sz cs len k
          | none => .fail 502) else .fail 503
      | none => .fail 504)
    | _ => .fail 505)
  | none => .fail 506
theorem run_buildSlice_nil (w : World) (t e : TypeId) (ie : TypeInfo) (hu : P.underlying t = some (.slice e)) (hie : P.info? e = some ie) :
    (Instr.buildSlice t 0 #[]).run P w = .ok (.slice (some ⟨w.heap.size, 0, none⟩) 0 0) (w.alloc (.cells #[] e)) := by
  simp [Instr.buildSlice, run_underlying hu, sizeOf, typeInfo, hie, newRow, Instr.fill, Array.range_zero']
theorem owes_buildSlice (hty : ∀ t i, E.ty t = some i → tiOf P t = some i) (t : TypeId) (len : Nat) (ps : Array (Nat × Operand)) (h : o.op = .buildSlice t len ps) :
    Owes P C ρ0 Q o st (calm (opBuildSlice E.ty st o.dst t len (ps.toList.map fun p => (p.1, opnd st.tm p.2)))) := by
  intro k kp hk ρ a w H next Qx hn _
  unfold calm opBuildSlice at hk
  split at hk
  next ti hti =>
   split at hk
   next T s0 hsl =>
    obtain ⟨hU, _⟩ := tiOf_sli (hty _ _ hti) hsl
    split at hk
    next te hte =>
     obtain ⟨f, z, hf, hz, hsz, hby, hzs, hzr⟩ := zero_size hty hte
     split at hk
     · exact hk.elim
     next hs0 =>
      have hpos : 0 < te.sz := by
        rcases Nat.eq_zero_or_pos te.sz with e | e
        · rw [e] at hs0; exact absurd rfl hs0
        · exact e
      split at hk
      next hl0 =>
       have := Nat.eq_of_beq_eq_true hl0
       subst this
       split at hk
       next hps =>
        have hps' : ps = #[] := by
          have := List.map_eq_nil_iff.1 hps
          simpa using this
        subst hps'
        obtain ⟨st', ρ', hk, hag, H'⟩ := newRowT_snd (c := #[]) hk H .nil (by simp) (by simp [maxLen])
        refine wp_value ?_ (hn _ _ _ _ hag H' hk)
        simp [execOp, h, run_buildSlice_nil w t T f hU hf]
       · exact hk.elim
      next hl0 =>
       have hl1 : 0 < len := by
         rcases Nat.eq_zero_or_pos len with e | e
         · rw [e] at hl0; exact absurd rfl hl0
         · exact e
       split at hk
       next hle =>
        have hle := Nat.le_of_ble_eq_true hle
        split at hk
        next cs hfill =>
         have hz0 : RelL ρ (zerosR te.zero len) (madeCells z.cells (len * te.sz)).toList := by
           rw [← hzs, madeCells_eq z.cells (by rw [hzs]; exact hpos) len]
           exact zerosR_rel (hzr ρ) len
         obtain ⟨c', h1, h2⟩ := fillG_snd (ρ := ρ) (opnd st.tm) a.eval (fun x => opnd_rel H.tm x) ps.toList _ cs _ hz0 hfill
         have hcl : c'.size = len * te.sz := by
           have e1 : ∀ (l : List (Nat × SV)) (c d : List SV), fillG te.sz c l = some d → d.length = c.length := by
             intro l
             induction l with
             | nil => intro c d hd; simp only [fillG, Option.some.injEq] at hd; rw [hd]
             | cons p l ih =>
               intro c d hd
               obtain ⟨i, x⟩ := p
               simp only [fillG] at hd
               split at hd
               · split at hd
                 · rw [ih _ _ hd, lsetL_len]
                 · cases hd
               · cases hd
           have e2 := e1 _ _ _ hfill
           have e3 : cs.length = c'.size := by have := h2.length; simpa using this
           have e4 : (zerosR te.zero len).length = len * te.sz := by have := hz0.length; simpa [size_madeCells] using this
           rw [← e3, e2, e4]
         have hml : len ≤ maxLen := by
           have : len * 1 ≤ len * te.sz := Nat.mul_le_mul_left _ hpos
           simp only [maxLen]; omega
         obtain ⟨st', ρ', hk, hag, H'⟩ := newRowT_snd (c := c') hk H h2 hcl hml
         have hne : ¬ len * te.sz = 0 := by
           have : len * 1 ≤ len * te.sz := Nat.mul_le_mul_left _ hpos
           omega
         refine wp_value ?_ (hn _ _ _ _ hag H' hk)
         have hrun := run_buildSlice (P := P) w t T len (ps.map fun (i, x) => (i, a.eval x)) c' f z hU hf hz (by rw [hsz]; omega) (by rw [hsz]; exact hne) (by
           rw [hsz, Array.toList_map]
           exact h1)
         simp [execOp, h, hrun]
        · exact hk.elim
       · exact hk.elim
    · exact hk.elim
   · exact hk.elim
  · exact hk.elim

noncomputable def opMakeSlice (ty : TypeId → Option TI) (st : St) (d : Option Nat) (t : TypeId) (l c : SV) (k : St → Tree) : Tree := match ty t with
  | some ti => (match ti.k with
    | .sli T _ => (match ty T with
      | some te => if Nat.beq te.sz 0 then .fail 510 else (match litOf l with
        | some n => (match litOf c with
          | some n' => (match n with
            | .ofNat m => if eqI n n' && (Nat.ble m 1000000 && Nat.ble te.bytes 1024) then newRowT st d T te.sz (zerosR te.zero m) m k else .fail 511
            | _ => .fail 512)
          | none => .fail 513)
        | none => .fail 514)
      | none => .fail 515)
    | _ => .fail 516)
  | none => .fail 517
theorem owes_makeSlice (hty : ∀ t i, E.ty t = some i → tiOf P t = some i) (t : TypeId) (l c : Operand) (h : o.op = .makeSlice t l c) : Owes P C ρ0 Q o st (calm (opMakeSlice E.ty st o.dst t (opnd st.tm l) (opnd st.tm c))) := by
  intro k kp hk ρ a w H next Qx hn _
  have hl := opnd_rel H.tm l
  have hc := opnd_rel H.tm c
  unfold calm opMakeSlice at hk
  split at hk
  next ti hti =>
   split at hk
   next T s0 hsl =>
    obtain ⟨hU, _⟩ := tiOf_sli (hty _ _ hti) hsl
    split at hk
    next te hte =>
     obtain ⟨f, z, hf, hz, hsz, hby, hzs, hzr⟩ := zero_size hty hte
     split at hk
     · exact hk.elim
     next hs0 =>
      have hpos : 0 < te.sz := by
        rcases Nat.eq_zero_or_pos te.sz with e | e
        · rw [e] at hs0; exact absurd rfl hs0
        · exact e
      split at hk
      next n hln =>
       obtain ⟨kl, hle⟩ := litOf_some hln
       rw [hle] at hl
       simp only [SV.Rel] at hl
       split at hk
       next n' hcn =>
        obtain ⟨kc, hce⟩ := litOf_some hcn
        rw [hce] at hc
        simp only [SV.Rel] at hc
        split at hk
        next m =>
         split at hk
         next hb =>
          simp only [Bool.and_eq_true] at hb
          obtain ⟨hb1, hb2, hb3⟩ := hb
          rw [eqI_spec, decide_eq_true_eq] at hb1
          subst hb1
          have hb2 := Nat.le_of_ble_eq_true hb2
          have hb3 := Nat.le_of_ble_eq_true hb3
          have hz0 : RelL ρ (zerosR te.zero m) (madeCells z.cells (m * te.sz)).toList := by
            rw [← hzs, madeCells_eq z.cells (by rw [hzs]; exact hpos) m]
            exact zerosR_rel (hzr ρ) m
          obtain ⟨st', ρ', hk, hag, H'⟩ := newRowT_snd hk H hz0 (by rw [size_madeCells]) (by simp only [maxLen]; omega)
          refine wp_value ?_ (hn _ _ _ _ hag H' hk)
          have hbm : f.bytes * m ≤ 1024 * 1000000 := Nat.mul_le_mul (by rw [hby]; exact hb3) hb2
          have hrun := run_make (P := P) w t T f z hU hf hz kl kc (m : Int) (m : Int) (by omega) (Int.le_refl _) (by
            rw [← Int.natCast_mul]
            omega) (by omega)
          simp only [Int.toNat_natCast, hsz] at hrun
          have hrun' : (Instr.makeSlice t (a.eval l) (a.eval c)).run P w = .ok (.slice (some ⟨w.heap.size, 0, none⟩) m m) (w.alloc (.cells (madeCells z.cells (m * te.sz)) T)) := by
            rw [hl, hc]; exact hrun
          simp only [execOp, h, Sem.run_bind, hrun', Result.andThen, Sem.run_pure]
         · exact hk.elim
        · exact hk.elim
       · exact hk.elim
      · exact hk.elim
    · exact hk.elim
   · exact hk.elim
  · exact hk.elim

/-! strings -/
noncomputable def opStrIx (ty : TypeId → Option TI) (st : St) (d : Option Nat) (t : TypeId) (x i : SV) (k : St → Tree) : Tree := match ty t with
  | some ti => (match ti.k with
    | .str => (match x with
      | .t l => (match litOf i with
        | some (.ofNat m) => (match l[m]? with
          | some b => ret st d (.l .u8 (b.toNat : Int)) k
          | none => .fail 520)
        | _ => .fail 521)
      | .s b => (match numOf i with
        | some (_, n) => .need (0 ≤ n ∧ n < (b.size : Int)) (ret st d (.i .u8 ((b.data.toList.getD n.toNat 0).toNat : Int)) k)
        | none => .fail 522)
      | _ => .fail 523)
    | _ => .fail 524)
  | none => .fail 525
theorem owes_strIx (hty : ∀ t i, E.ty t = some i → tiOf P t = some i) (t : TypeId) (x i : Operand) (h : o.op = .index t x i) : OwesV P Q o st (opStrIx E.ty st o.dst t (opnd st.tm x) (opnd st.tm i)) := by
  intro k hk ρ a H
  have hx := opnd_rel H x
  have hi := opnd_rel H i
  unfold opStrIx at hk
  split at hk
  next ti hti =>
   split at hk
   next hs =>
    have hu := tiOf_str (hty _ _ hti) hs
    have run : ∀ (b : ByteArray) (kk : IntKind) (m : Nat) (c : UInt8), a.eval x = .string b → a.eval i = .int kk (m : Int) → b.data.toList[m]? = some c → ∀ w, (execOp a.eval o).run P w = .ok (.value (.int .u8 (c.toNat : Int))) w := by
      intro b kk m c hxv hiv hc w
      have hb : b[m]? = some c := by
        have : b.data[m]? = some c := by rw [← Array.getElem?_toList]; exact hc
        obtain ⟨hlt, he⟩ := Array.getElem?_eq_some_iff.1 this
        exact getElem?_eq_some_iff.2 ⟨hlt, he⟩
      simp [execOp, h, hxv, hiv, Instr.index, asIntOf, run_underlying hu, hb]
    split at hk
    next l hxe =>
     rw [hxe] at hx
     simp only [SV.Rel] at hx
     split at hk
     next m hin =>
      obtain ⟨ik, hie⟩ := litOf_some hin
      rw [hie] at hi
      simp only [SV.Rel] at hi
      split at hk
      next b hb => exact ⟨_, _, hk, (by simp only [SV.Rel]), run (bytesOf l) ik m b hx hi (by simpa [bytesOf] using hb)⟩
      · exact hk.elim
     · exact hk.elim
    next b hxe =>
     rw [hxe] at hx
     simp only [SV.Rel] at hx
     split at hk
     next ik n hin =>
      have hiv := numOf_rel hin hi
      obtain ⟨⟨h0, h1⟩, hk⟩ := hk
      have hk := hk ⟨h0, h1⟩
      obtain ⟨m, rfl⟩ := Int.eq_ofNat_of_zero_le h0
      have hlt : m < b.data.toList.length := by rw [Array.length_toList]; have : b.size = b.data.size := rfl; omega
      exact ⟨_, _, hk, (by simp only [SV.Rel, Int.toNat_natCast]), run b ik m _ hx hiv (getD_of 0 hlt)⟩
     · exact hk.elim
    · exact hk.elim
   · exact hk.elim
  · exact hk.elim

/-! interfaces -/
def isIfc : TK → Bool
  | .ifc _ => true
  | _ => false
noncomputable def opMkIfc (ty : TypeId → Option TI) (st : St) (d : Option Nat) (t : TypeId) (x : SV) (k : St → Tree) : Tree := match ty t with
  | some ti => if isIfc ti.k then .fail 530 else ret st d (.ifc t x) k
  | none => .fail 531
theorem not_ifc {t : TypeId} {i : TI} (h : tiOf P t = some i) (hn : ¬ isIfc i.k = true) : ∃ d, P.underlying t = some d ∧ ∀ m, d ≠ .interface m := by
  obtain ⟨f, z, d, hf, hz, hd, rfl, _⟩ := tiOf_d h
  exact ⟨d, hd, fun m e => hn (by subst e; rfl)⟩
theorem owes_mkIfc (hty : ∀ t i, E.ty t = some i → tiOf P t = some i) (t : TypeId) (x : Operand) (h : o.op = .makeInterface t x) : OwesV P Q o st (opMkIfc E.ty st o.dst t (opnd st.tm x)) := by
  intro k hk ρ a H
  unfold opMkIfc at hk
  split at hk
  next ti hti =>
    split at hk
    · exact hk.elim
    next hn =>
      obtain ⟨d, hd, hne⟩ := not_ifc (hty _ _ hti) hn
      refine ⟨_, .iface t (a.eval x), hk, by simp only [SV.Rel]; exact ⟨_, rfl, opnd_rel H x⟩, fun w => ?_⟩
      cases d <;> first | (exact absurd rfl (hne _)) | simp [execOp, h, Instr.makeInterface, run_underlying hd]
  · exact hk.elim

noncomputable def opAssert (ty : TypeId → Option TI) (st : St) (d : Option Nat) (x : SV) (t : TypeId) (ok : Bool) (k : St → Tree) : Tree := match ty t with
  | some ti => if isIfc ti.k then .fail 540 else
    let zv : SV := if ti.agg then .agg ti.zero else lget ti.zero 0
    (match x with
    | .ifc t' v => if Nat.beq t' t then (if ok then ret st d (.tup [v, .tt]) k else ret st d v k) else (if ok then ret st d (.tup [zv, .ff]) k else .fail 541)
    | .ni => if ok then ret st d (.tup [zv, .ff]) k else .fail 542
    | _ => .fail 543)
  | none => .fail 544
theorem owes_assert (hty : ∀ t i, E.ty t = some i → tiOf P t = some i) (x : Operand) (xt t : TypeId) (ok : Bool) (h : o.op = .typeAssert x xt t ok) : OwesV P Q o st (opAssert E.ty st o.dst (opnd st.tm x) t ok) := by
  intro k hk ρ a H
  have hx := opnd_rel H x
  unfold opAssert at hk
  split at hk
  next ti hti =>
    split at hk
    · exact hk.elim
    next hn =>
      obtain ⟨d, hd, hne⟩ := not_ifc (hty _ _ hti) hn
      obtain ⟨z, hz, hzr⟩ := zero_run hty hti ρ
      have tupz : SV.Rel ρ (.tup [if ti.agg then .agg ti.zero else lget ti.zero 0, .ff]) (.tuple #[z, .bool false]) := by
        simp only [SV.Rel]; exact ⟨_, rfl, .cons hzr (.cons (by simp only [SV.Rel]) .nil)⟩
      simp only at hk
      split at hk
      next t' v hxe =>
        rw [hxe] at hx
        simp only [SV.Rel] at hx
        obtain ⟨y, hx, hy⟩ := hx
        split at hk
        next ht =>
          have := Nat.eq_of_beq_eq_true ht
          subst this
          have run : ∀ w, (execOp a.eval o).run P w = .ok (.value (if ok then .tuple #[y, .bool true] else y)) w := fun w => by
            cases d <;> first | (exact absurd rfl (hne _)) | (cases ok <;> simp [execOp, h, hx, Instr.typeAssert, run_underlying hd])
          split at hk
          next hok => subst hok; exact ⟨_, _, hk, by simp only [SV.Rel]; exact ⟨_, rfl, .cons hy (.cons (by simp only [SV.Rel]) .nil)⟩, run⟩
          next hok => have : ok = false := by simpa using hok
                      subst this; exact ⟨_, _, hk, hy, run⟩
        next ht =>
          have htne : t' ≠ t := fun e => ht (by rw [e]; exact Nat.beq_refl t)
          split at hk
          next hok =>
            subst hok
            refine ⟨_, _, hk, tupz, fun w => ?_⟩
            cases d <;> first | (exact absurd rfl (hne _)) | simp [execOp, h, hx, Instr.typeAssert, run_underlying hd, htne, hz]
          · exact hk.elim
      next hxe =>
        rw [hxe] at hx
        simp only [SV.Rel] at hx
        split at hk
        next hok =>
          subst hok
          refine ⟨_, _, hk, tupz, fun w => ?_⟩
          cases d <;> first | (exact absurd rfl (hne _)) | simp [execOp, h, hx, Instr.typeAssert, run_underlying hd, hz]
        · exact hk.elim
      · exact hk.elim
  · exact hk.elim

/-! a deferred call; a panic -/
noncomputable def opDefer (st : St) (d : Option Nat) (f : SV) (args : List SV) (k : St → Tree) : Tree := match f with
  | .fn f cap => if Nat.blt f 1048576 then k { st with tm := put st.tm d .none_, df := ⟨f, args, cap⟩ :: st.df } else .fail 551
  | _ => .fail 550
theorem owes_defer (c : Call) (f : Operand) (h : o.op = .defer c) (hc : c.callee = .value f) : Owes P C ρ0 Q o st (calm (opDefer st o.dst (opnd st.tm f) (c.args.toList.map (opnd st.tm)))) := by
  intro k kp hk ρ a w H next Qx hn _
  have hf := opnd_rel H.tm f
  unfold calm opDefer at hk
  split at hk
  next g cap e =>
    rw [e] at hf
    simp only [SV.Rel] at hf
    obtain ⟨cs, hfv, hcap⟩ := hf
    split at hk
    next hb =>
      rw [fnV_lo hb] at hfv
      have hrun : (execOp a.eval o).run P w = .ok (.defer { target := .fn (.func g) cs, args := c.args.map a.eval }) w := by
        simp [execOp, h, resolve, hc, hfv, Deferred.ofValue]
      unfold Oper.wp
      rw [hrun]
      refine hn _ ρ _ _ (put_ag _ _ _) ?_ hk
      refine ⟨H.hp, ?_, ?_, H.bd, H.le⟩
      · exact put_rel (a := { a with defers := { target := .fn (.func g) cs, args := c.args.map a.eval } :: a.defers }) H.tm o.dst (x := .none_) (v := undef) (by simp only [SV.Rel])
      · rw [put_df]
        exact ⟨_, _, rfl, ⟨cs, rfl, hcap⟩, by rw [Array.toList_map]; exact opnds_rel H.tm _, H.df⟩
    · exact hk.elim
  · exact hk.elim
/-! going through a map that holds nothing -/
noncomputable def opRange (ty : TypeId → Option TI) (st : St) (d : Option Nat) (t : TypeId) (x : SV) (k : St → Tree) : Tree := match ty t with
  | some ti => (match ti.k with
    | .mp _ _ => (match x with
      | .m b => (match st.hp.get b with
        | some o => (match o with
          | .mp _ _ => k (St.rec (motive := fun _ => St) (fun tm hp nx df => ⟨put tm d (.p nx (.c 0)), (nx, .it b) :: hp, nx + 1, df⟩) st)
          | _ => .fail 560)
        | none => .fail 561)
      | _ => .fail 562)
    | _ => .fail 563)
  | none => .fail 564
theorem owes_range (hty : ∀ t i, E.ty t = some i → tiOf P t = some i) (t : TypeId) (x : Operand) (h : o.op = .range t x) : Owes P C ρ0 Q o st (calm (opRange E.ty st o.dst t (opnd st.tm x))) := by
  intro k kp hk ρ a w H next Qx hn _
  have hx := opnd_rel H.tm x
  unfold calm opRange at hk
  split at hk
  next ti hti =>
   split at hk
   next kt et hmp =>
    have hu := tiOf_mp (hty _ _ hti) hmp
    split at hk
    next b hxe =>
     rw [hxe] at hx
     simp only [SV.Rel] at hx
     obtain ⟨g, hg, hx⟩ := hx
     split at hk
     next ob hob =>
      obtain ⟨G, R', hr, hp, _⟩ := H.hp.focus hob
      split at hk
      next kk es =>
       obtain ⟨g', m, hg', hm, hG⟩ := hr
       rw [hg] at hg'; cases hg'
       obtain ⟨es', clock, hb, _⟩ := hp.map hG
       have hrun : (Instr.range t (.map (some g))).run P w = .ok (.pointer (some ⟨w.heap.size, 0, none⟩)) (w.alloc (.mapIter (some g) clock #[] clock)) := by
         simp [Instr.range, run_underlying hu, getObj_map hb, newObj, Sem.run, Result.andThen]
       refine wp_value (v := .pointer (some ⟨w.heap.size, 0, none⟩)) (w' := w.alloc (.mapIter (some g) clock #[] clock)) ?_ (hn _ (upd ρ st.nx w.heap.size) _ _ (put_ag _ _ _) ?_ hk)
       · simp only [execOp, h, hx, Sem.run_bind, hrun, Result.andThen, Sem.run_pure]
       · have H' : HS C ρ0 (upd ρ st.nx w.heap.size) { st with hp := (st.nx, .it b) :: st.hp, nx := st.nx + 1 } a (w.alloc (.mapIter (some g) clock #[] clock)) :=
           H.fresh ⟨w.heap.size, g, _, _, _, upd_at _ _ _, upd_le H.free _ _ hg, rfl⟩ fun Gs hp => hp.new _
         exact H'.put o.dst (by simp only [SV.Rel]; exact ⟨_, upd_at _ _ _, rfl⟩)
      · exact hk.elim
     · exact hk.elim
    · exact hk.elim
   · exact hk.elim
  · exact hk.elim
noncomputable def opNext (st : St) (d : Option Nat) (x : SV) (k : St → Tree) : Tree := match x with
  | .p b q => (match q with
    | .c n => if Nat.beq n 0 then (match st.hp.get b with
      | some o => (match o with
        | .it bm => (match st.hp.get bm with
          | some o' => (match o' with
            | .mp _ es => (match es with
              | [] => ret st d (.tup [.ff]) k
              | _ => .fail 570)
            | _ => .fail 571)
          | none => .fail 572)
        | _ => .fail 573)
      | none => .fail 574) else .fail 575
    | _ => .fail 576)
  | _ => .fail 577
theorem owes_next (x : Operand) (h : o.op = .next x false) : Owes P C ρ0 Q o st (calm (opNext st o.dst (opnd st.tm x))) := by
  intro k kp hk ρ a w H next Qx hn _
  have hx := opnd_rel H.tm x
  unfold calm opNext at hk
  split at hk
  next b q hxe =>
   rw [hxe] at hx
   simp only [SV.Rel] at hx
   obtain ⟨g, hg, hx⟩ := hx
   split at hk
   next n =>
    split at hk
    next hn0 =>
     have := Nat.eq_of_beq_eq_true hn0
     subst this
     split at hk
     next ob hob =>
      obtain ⟨G, R', hr, hp, _⟩ := H.hp.focus hob
      split at hk
      next bm =>
       obtain ⟨gi, gm, sx, sy, sz, hgi, hgm, rfl⟩ := hr
       rw [hg] at hgi; cases hgi
       split at hk
       next ob' hob' =>
        obtain ⟨G', R2, hr', hp', _⟩ := H.hp.focus hob'
        split at hk
        next kk es =>
         obtain ⟨g2, m, hg2, hm, hG⟩ := hr'
         rw [hgm] at hg2; cases hg2
         split at hk
         next =>
          have hm' : m = [] := hm
          subst hm'
          obtain ⟨es', clock, hb, hes', _⟩ := hp'.map hG
          have hes'' : es' = #[] := by
            have : es'.toList = [] := by simpa using hes'
            simpa using this
          subst hes''
          have hi : (getObj g).run P w = .ok (.mapIter (some gm) sx sy sz) w := by
            have := hp.blk
            simp [getObj, Sem.run, this]
          have hrun : (Instr.next (.pointer (some ⟨g, 0, none⟩)) false o.type).run P w = .ok (.tuple #[.bool false]) w := by
            unfold Instr.next
            simp only [Sem.run_bind, hi, Result.andThen, getObj_map hb]
            have hfe : ∀ f : MapEntry → Bool, Array.filter f #[] 0 0 = #[] := fun f => rfl
            simp [Question.forced, hfe]
          refine wp_value (v := .tuple #[.bool false]) ?_ (hn _ ρ _ _ (put_ag _ _ _) (H.put o.dst (x := .tup [.ff]) (by simp only [SV.Rel]; exact ⟨_, rfl, .cons (by simp only [SV.Rel]) .nil⟩)) hk)
          simp only [execOp, h, hx, Off.n, Sem.run_bind, hrun, Result.andThen, Sem.run_pure]
         · exact hk.elim
        · exact hk.elim
       · exact hk.elim
      · exact hk.elim
     · exact hk.elim
    · exact hk.elim
   · exact hk.elim
  · exact hk.elim
noncomputable def opPanic (st : St) (x : SV) (kp : SV → St → Tree) : Tree := match x with
  | .ifc t v => kp (.ifc t v) st
  | _ => .fail 551
end
end SX
end Go.Proofs.YtnjaaagiindclaaGreatDoor
