/-
  Part 7 of what the statement leans on: Sx12, AnyJ, SxA, SxB, SxE.
-/
import Derived.Test.YtnjaaagiindclaaGreatDoorPk1
import Derived.Test.YtnjaaagiindclaaGreatDoorPk6
import Derived.LaidEqlPtr
import Derived.OrdersHeld
import Derived.Deep.RegionHeld3
/-
  SX: operations in a row, each perhaps under a guard. No program in sight.
-/
namespace Go.Proofs.YtnjaaagiindclaaGreatDoor
open Go.RowKit Go.Deep
namespace SX

theorem Heap.get_rem {h : Heap} {b b' : Nat} {o : SObj} (hg : h.get b' = some o) (hne : b ≠ b') : (h.rem b).get b' = some o := by
  induction h with
  | nil => cases hg
  | cons x h ih =>
    rw [Heap.get_cons] at hg
    simp only [Heap.rem]
    by_cases e : Nat.beq x.1 b = true
    · rw [if_pos e]
      have e' := Nat.eq_of_beq_eq_true e
      have e2 : ¬ Nat.beq x.1 b' = true := fun e3 => hne (by rw [← e', Nat.eq_of_beq_eq_true e3])
      rw [if_neg e2] at hg
      exact hg
    · rw [if_neg e, Heap.get_cons]
      by_cases e2 : Nat.beq x.1 b' = true
      · rw [if_pos e2] at hg ⊢; exact hg
      · rw [if_neg e2] at hg ⊢; exact ih hg
section
variable {P : Program} {C : Ctx} {ρ0 : Ren} {Q : Ex → St → Prop} {o : Oper} {st : St} {E : Env}
/-- two objects stand in two blocks -/
theorem cells_apart {h : Heap} {ρ : Ren} {w : World} (H : Holds C ρ h w) {b b' : Nat} (hne : b ≠ b') {t t' : TypeId} {cs cs' : List SV} (h1 : h.get b = some (.cells t cs)) (h2 : h.get b' = some (.cells t' cs')) :
    ∃ g g' c c', ρ b = some g ∧ ρ b' = some g' ∧ g ≠ g' ∧ w.heap[g]? = some (.cells c t (0, 0)) ∧ w.heap[g']? = some (.cells c' t' (0, 0)) := by
  obtain ⟨Gs, hr, hp⟩ := H
  obtain ⟨pre, G, post, rfl, r1, r2⟩ := hr.take h1
  obtain ⟨pre', G', post', e, r3, _⟩ := r2.take (Heap.get_rem h2 hne)
  obtain ⟨g, c, hg, rfl, _⟩ := r1
  obtain ⟨g', c', hg', rfl, _⟩ := r3
  have hp1 : Hp C.I w ([(g, .cells c t (0, 0))] :: ((pre ++ post) ++ C.R)) := hp.permG (by
    rw [List.append_assoc, List.cons_append, List.append_assoc]; exact List.perm_middle)
  rw [e] at hp1
  have hp2 : Hp C.I w ([(g, .cells c t (0, 0))] :: [(g', .cells c' t' (0, 0))] :: ((pre' ++ post') ++ C.R)) := hp1.permG (by
    refine List.Perm.cons _ ?_
    rw [List.append_assoc, List.cons_append, List.append_assoc]; exact List.perm_middle)
  exact ⟨g, g', c, c', hg, hg', hp2.ne, hp2.blk, hp2.drop.blk⟩
noncomputable def opPtrEq (ty : TypeId → Option TI) (st : St) (d : Option Nat) (op : BinOp) (t : TypeId) (b : Nat) (q : Off) (b' : Nat) (q' : Off) (k : St → Tree) : Tree := match ty t with
  | some ti => (match ti.k with
    | .pt e => (match ty e with
      | some te => if Nat.beq te.sz 0 then .fail 590 else
        if Nat.beq b b' then (match q with
          | .c m => (match q' with
            | .c m' => if Nat.beq m m' then nilT st d op true k else .fail 591
            | _ => .fail 592)
          | _ => .fail 593)
        else (match st.hp.get b with
          | some o => (match o with
            | .cells _ _ => (match st.hp.get b' with
              | some o' => (match o' with
                | .cells _ _ => nilT st d op false k
                | _ => .fail 594)
              | none => .fail 595)
            | _ => .fail 596)
          | none => .fail 597)
      | none => .fail 598)
    | _ => .fail 599)
  | none => .fail 600
theorem owes_ptrEq (hty : ∀ t i, E.ty t = some i → tiOf P t = some i) (op : BinOp) (t : TypeId) (x y : Operand) (t' : TypeId) (h : o.op = .binOp op t x y t') {b b' : Nat} {q q' : Off} (hxe : opnd st.tm x = .p b q) (hye : opnd st.tm y = .p b' q') :
    Owes P C ρ0 Q o st (calm (opPtrEq E.ty st o.dst op t b q b' q')) := by
  intro k kp hk ρ a w H next Qx hn _
  have hx := opnd_rel H.tm x
  have hy := opnd_rel H.tm y
  rw [hxe] at hx
  rw [hye] at hy
  simp only [SV.Rel] at hx hy
  obtain ⟨g, hg, hx⟩ := hx
  obtain ⟨g', hg', hy⟩ := hy
  have fin : ∀ v : Bool, (Op.equal t (a.eval x) (a.eval y)).run P w = .ok v w → (nilT st o.dst op v k).den Q → o.wp P a w next Qx := by
    intro v hv hk
    rcases nilT_snd hk with ⟨e, hk⟩ | ⟨e, hk⟩
    · refine wp_value (v := .bool v) ?_ (hn _ ρ _ _ (put_ag _ _ _) (H.put o.dst (ofB_rel ρ v)) hk)
      subst e
      rw [hx, hy] at hv
      simp [execOp, h, hx, hy, guard_ptr, binOp, hv]
    · refine wp_value (v := .bool !v) ?_ (hn _ ρ _ _ (put_ag _ _ _) (H.put o.dst (ofB_rel ρ (!v))) hk)
      subst e
      rw [hx, hy] at hv
      simp [execOp, h, hx, hy, guard_ptr, binOp, hv]
  unfold calm opPtrEq at hk
  split at hk
  next ti hti =>
   split at hk
   next e he =>
    have hu := tiOf_pt (hty _ _ hti) he
    split at hk
    next te hte =>
     obtain ⟨⟨f, z, hf, hfs, _⟩, _⟩ := tiOf_is (hty _ _ hte)
     split at hk
     · exact hk.elim
     next hs0 =>
      have hsz : f.size ≠ 0 := fun e => hs0 (by rw [← hfs, e]; rfl)
      split at hk
      next hb =>
       have := Nat.eq_of_beq_eq_true hb
       subst this
       rw [hg] at hg'; cases hg'
       split at hk
       next m =>
        split at hk
        next m' =>
         split at hk
         next hm =>
          have := Nat.eq_of_beq_eq_true hm
          subst this
          refine fin true ?_ hk
          rw [hx, hy]
          have hd : ∀ d : Nat, (Op.equalIn (d + 1) t (.pointer (some ⟨g, m, none⟩)) (.pointer (some ⟨g, m, none⟩))).run P w = .ok true w := fun d => by
            simp [Op.equalIn, run_underlying hu, sizeOf, typeInfo, hf, run_sameAddr_same]
          exact hd 9999
         · exact hk.elim
        · exact hk.elim
       · exact hk.elim
      next hb =>
       split at hk
       next ob hob =>
        split at hk
        next t1 cs1 =>
         split at hk
         next ob' hob' =>
          split at hk
          next t2 cs2 =>
           have hne : b ≠ b' := fun e => hb (by rw [e]; exact Nat.beq_refl b')
           obtain ⟨g1, g2, c1, c2, e1, e2, hne', h1, h2⟩ := cells_apart H.hp hne hob hob'
           rw [hg] at e1; cases e1
           rw [hg'] at e2; cases e2
           refine fin false ?_ hk
           rw [hx, hy]
           have hae : (⟨g, q.n, none⟩ : Addr) ≠ ⟨g', q'.n, none⟩ := fun e => hne' (congrArg Addr.block e)
           have := run_sameAddr_other (P := P) w hae h1 h2
           have hd : ∀ d : Nat, (Op.equalIn (d + 1) t (.pointer (some ⟨g, q.n, none⟩)) (.pointer (some ⟨g', q'.n, none⟩))).run P w = .ok false w := fun d => by
            simp [Op.equalIn, run_underlying hu, sizeOf, typeInfo, hf, hsz, this]
           exact hd 9999
          · exact hk.elim
         · exact hk.elim
        · exact hk.elim
       · exact hk.elim
    · exact hk.elim
   · exact hk.elim
  · exact hk.elim
end

/-- what an Env promises -/
structure EnvOk (P : Program) (𝔅 : BigRep) (E : Env) : Prop where
  ty : ∀ t i, E.ty t = some i → tiOf P t = some i
  spec : ∀ f sp, E.spec f = some sp → SpecOk P 𝔅 f sp
  mx : P.follows .mixedOrders = true

def isMp (ty : TypeId → Option TI) (t : TypeId) : Bool := match ty t with
  | some i => (match i.k with | .mp .. => true | _ => false)
  | none => false
noncomputable def opC (E : Env) (o : Oper) (c : Call) (st : St) (k : St → Tree) (kp : SV → St → Tree) : Tree := match c.callee with
  | .value f => opCall E.spec st o.dst (opnd st.tm f) (c.args.toList.map (opnd st.tm)) k kp
  | .builtin b => (match c.args.toList with
    | [x] => (match c.argTypes.toList with
      | [t] => (match b with
        | .len => if isMp E.ty t then opMapLen E.ty st o.dst t (opnd st.tm x) k else opLen E.ty st o.dst t (opnd st.tm x) k
        | _ => .fail 220)
      | _ => .fail 221)
    | [x, y] => (match b with
      | .min => opMin false st o.dst (opnd st.tm x) (opnd st.tm y) k
      | .max => opMin true st o.dst (opnd st.tm x) (opnd st.tm y) k
      | .append => (match c.argTypes.toList with
        | [t, u] => opApp E.ty st o.dst t u (opnd st.tm x) (opnd st.tm y) k
        | _ => .fail 229)
      | .delete => (match c.argTypes.toList with
        | [t, _] => opMapDel E.ty st o.dst t (opnd st.tm x) (opnd st.tm y) k
        | _ => .fail 229)
      | _ => .fail 222)
    | _ => .fail 223)
  | .invoke .. => .fail 224
/-- two pointers to blocks -/
def two (x y : SV) : Option (Nat × Off × Nat × Off) := match x with
  | .p b q => (match y with | .p b' q' => some (b, q, b', q') | _ => none)
  | _ => none
noncomputable def opT (E : Env) (o : Oper) (st : St) (k : St → Tree) (kp : SV → St → Tree) : Tree := match o.op with
  | .move x => ret st o.dst (opnd st.tm x) k
  | .assign x => ret st o.dst (opnd st.tm x) k
  | .pick c x y => opPick st o.dst (opnd st.tm c) (opnd st.tm x) (opnd st.tm y) k
  | .alloc t => opAlloc E.ty st o.dst t k
  | .box t x => opBox st o.dst t (opnd st.tm x) k
  | .build t ps => opBuild E.ty st o.dst t (ps.toList.map fun p => (p.1, opnd st.tm p.2)) k
  | .buildSlice t n ps => opBuildSlice E.ty st o.dst t n (ps.toList.map fun p => (p.1, opnd st.tm p.2)) k
  | .makeSlice t l c => opMakeSlice E.ty st o.dst t (opnd st.tm l) (opnd st.tm c) k
  | .load t x => opLoad E.ty st o.dst t (opnd st.tm x) k
  | .store t x v => opStore E.ty st o.dst t (opnd st.tm x) (opnd st.tm v) k
  | .nilCheck x => opNilCheck st o.dst (opnd st.tm x) k
  | .binOp op t x y _ => (match two (opnd st.tm x) (opnd st.tm y) with
    | some z => opPtrEq E.ty st o.dst op t z.1 z.2.1 z.2.2.1 z.2.2.2 k
    | none => opBin E.ty E.wr st o.dst op t (isC y) (opnd st.tm x) (opnd st.tm y) k)
  | .unOp op _ x => opUn st o.dst op (opnd st.tm x) k
  | .convert s t x => opConv E.ty E.wr st o.dst s t (opnd st.tm x) k
  | .makeFunc f first xs => (match f with
    | .func f => (match first.toList with
      | [] => opFunc st o.dst f (xs.toList.map (opnd st.tm)) k
      | _ => (match xs.toList with
        | [] => opMeth st o.dst f (first.toList.map (opnd st.tm)) k
        | _ => .fail 225))
    | _ => .fail 226)
  | .makeInterface t x => opMkIfc E.ty st o.dst t (opnd st.tm x) k
  | .typeAssert x _ t ok => opAssert E.ty st o.dst (opnd st.tm x) t ok k
  | .makeMap t r => (match r with
    | none => opMakeMap E.ty st o.dst t k
    | some _ => .fail 231)
  | .lookup t x i ok => opLookup E.ty st o.dst t (opnd st.tm x) (opnd st.tm i) ok k
  | .mapUpdate t x i v => opMapSet E.ty st o.dst t (opnd st.tm x) (opnd st.tm i) (opnd st.tm v) k
  | .insert t x i v => opMapSet E.ty st o.dst t (opnd st.tm x) (opnd st.tm i) (opnd st.tm v) k
  | .range t x => opRange E.ty st o.dst t (opnd st.tm x) k
  | .next x s => if s then .fail 232 else opNext st o.dst (opnd st.tm x) k
  | .slice t x lo hi mx => (match mx with
    | none => opSlice E.ty st o.dst t (opnd st.tm x) (lo.map (opnd st.tm)) (hi.map (opnd st.tm)) k
    | some _ => .fail 227)
  | .fieldAddr t x f => opField E.ty st o.dst t (opnd st.tm x) f k
  | .field t x f => opPart E.ty st o.dst t (opnd st.tm x) f k
  | .indexAddr t x i => opIndex E.ty st o.dst t (opnd st.tm x) (opnd st.tm i) k
  | .index t x i => opStrIx E.ty st o.dst t (opnd st.tm x) (opnd st.tm i) k
  | .extract x i => opExtract st o.dst (opnd st.tm x) i k
  | .defer c => (match c.callee with
    | .value f => opDefer st o.dst (opnd st.tm f) (c.args.toList.map (opnd st.tm)) k
    | _ => .fail 233)
  | .panic x => opPanic st (opnd st.tm x) kp
  | .call c => opC E o c st k kp
  | _ => .fail 228

section
variable {P : Program} {C : Ctx} {ρ0 : Ren} {Q : Ex → St → Prop} {o : Oper} {st : St} {E : Env}
theorem owes_fail (n : Nat) : Owes P C ρ0 Q o st (fun _ _ => .fail n) := fun _ _ hk => hk.elim
theorem arr1 {α : Type} {a : Array α} {l : List α} (h : a.toList = l) : a = l.toArray := by rw [← h]
theorem owes_panic (x : Operand) (h : o.op = .panic x) : Owes P C ρ0 Q o st (fun _ kp => opPanic st (opnd st.tm x) kp) := by
  intro k kp hk ρ a w H next Qx _ hp
  have hx := opnd_rel H.tm x
  unfold opPanic at hk
  split at hk
  next t v hxe =>
    rw [hxe] at hx
    have hx' := hx
    simp only [SV.Rel] at hx'
    obtain ⟨y, hy, _⟩ := hx'
    refine wp_panics (v := a.eval x) (w' := w) ?_ (hp _ _ st ρ _ _ (.refl _ _) hx H hk)
    simp [execOp, h, hy, Instr.panic]
  · exact hk.elim
theorem owes_c (hE : EnvOk P C.B E) (c : Call) (h : o.op = .call c) : Owes P C ρ0 Q o st (opC E o c st) := by
  unfold opC
  cases hc : c.callee with
  | value f => exact owes_call hE.spec c f h hc
  | invoke r m => exact owes_fail _
  | builtin b =>
    simp only
    cases ha : c.args.toList with
    | nil => exact owes_fail _
    | cons x l => cases l with
      | nil =>
        simp only
        cases ht : c.argTypes.toList with
        | nil => exact owes_fail _
        | cons t l => cases l with
          | cons u l => exact owes_fail _
          | nil =>
            simp only
            cases b
            case len =>
              simp only
              split
              · exact owes_mapLen hE.ty c t x h hc (arr1 ha) (arr1 ht)
              · exact (owes_len hE.ty c t x h hc (arr1 ha) (arr1 ht)).owes
            all_goals exact owes_fail _
      | cons y l => cases l with
        | cons u l => exact owes_fail _
        | nil =>
          simp only
          cases b
          case min => exact (owes_min false c x y h hc (arr1 ha)).owes
          case max => exact (owes_min true c x y h hc (arr1 ha)).owes
          case append =>
            simp only
            cases ht : c.argTypes.toList with
            | nil => exact owes_fail _
            | cons t l => cases l with
              | nil => exact owes_fail _
              | cons u l => cases l with
                | nil => exact owes_app hE.ty c t u x y h hc (arr1 ha) (arr1 ht)
                | cons _ _ => exact owes_fail _
          case delete =>
            simp only
            cases ht : c.argTypes.toList with
            | nil => exact owes_fail _
            | cons t l => cases l with
              | nil => exact owes_fail _
              | cons u l => cases l with
                | nil => exact owes_mapDel hE.ty c t u x y h hc (arr1 ha) (arr1 ht)
                | cons _ _ => exact owes_fail _
          all_goals exact owes_fail _
theorem two_some {x y : SV} {z : Nat × Off × Nat × Off} (h : two x y = some z) : x = .p z.1 z.2.1 ∧ y = .p z.2.2.1 z.2.2.2 := by
  unfold two at h
  split at h
  · split at h
    · simp only [Option.some.injEq] at h; subst h; exact ⟨rfl, rfl⟩
    · cases h
  · cases h
theorem owes_op (hE : EnvOk P C.B E) (o : Oper) (st : St) : Owes P C ρ0 Q o st (opT E o st) := by
  unfold opT
  cases h : o.op with
  | move x => exact (owes_move x h).owes
  | assign x => exact (owes_assign x h).owes
  | pick c x y => exact (owes_pick c x y h).owes
  | alloc t => exact owes_alloc hE.ty t h
  | box t x => exact owes_box t x h
  | build t ps => exact (owes_build hE.ty t ps h).owes
  | buildSlice t n ps => exact owes_buildSlice hE.ty t n ps h
  | makeSlice t l c => exact owes_makeSlice hE.ty t l c h
  | load t x => exact owes_load hE.ty t x h
  | store t x v => exact owes_store hE.ty t x v h
  | nilCheck x => exact (owes_nilCheck x h).owes
  | binOp op t x y t' =>
    simp only
    split
    next z hz => exact owes_ptrEq hE.ty op t x y t' h (two_some hz).1 (two_some hz).2
    next => exact (owes_bin hE.ty E.wr op t x y t' h).owes
  | unOp op t x => exact (owes_un op t x h).owes
  | convert s t x => exact (owes_conv hE.ty E.wr s t x h).owes
  | makeFunc f first xs =>
    cases f with
    | func f =>
      simp only
      cases hf : first.toList with
      | nil => exact (owes_func f xs (by rw [h, arr1 hf])).owes
      | cons _ _ =>
        simp only
        cases hx : xs.toList with
        | nil => rw [← hf]; exact (owes_meth f first (by rw [h, arr1 hx])).owes
        | cons _ _ => exact owes_fail _
    | _ => exact owes_fail _
  | makeInterface t x => exact (owes_mkIfc hE.ty t x h).owes
  | typeAssert x xt t ok => exact (owes_assert hE.ty x xt t ok h).owes
  | makeMap t r =>
    cases r with
    | none => exact owes_makeMap t none h rfl
    | some _ => exact owes_fail _
  | lookup t x i ok => exact owes_lookup hE.ty t x i ok h
  | mapUpdate t x i v => exact owes_mapSet hE.ty t x i v (.inl h)
  | insert t x i v => exact owes_mapSet hE.ty t x i v (.inr h)
  | range t x => exact owes_range hE.ty t x h
  | next x s =>
    cases s with
    | true => exact owes_fail _
    | false => exact owes_next x h
  | slice t x lo hi mx =>
    cases mx with
    | none => exact (owes_slice hE.ty t x lo hi h).owes
    | some _ => exact owes_fail _
  | fieldAddr t x f => exact (owes_field hE.ty t x f h).owes
  | field t x f => exact (owes_part hE.ty t x f h).owes
  | indexAddr t x i => exact (owes_index hE.ty t x i h).owes
  | index t x i => exact (owes_strIx hE.ty t x i h).owes
  | extract x i => exact (owes_extract x i h).owes
  | defer c =>
    simp only
    cases hc : c.callee with
    | value f => exact owes_defer c f h hc
    | _ => exact owes_fail _
  | panic x => exact owes_panic x h
  | call c => exact owes_c hE c h
  | _ => exact owes_fail _

/-! guards -/
def gslot (ops : List Oper) (j : Nat) : Option Nat := match ops[j]? with
  | some o => o.dst
  | none => none
def dsts : List Oper → List Nat
  | [] => []
  | o :: l => o.dst.toList ++ dsts l
theorem gslot_mem {ops : List Oper} {j s : Nat} (h : gslot ops j = some s) : s ∈ dsts ops := by
  induction ops generalizing j with
  | nil => simp [gslot] at h
  | cons o l ih =>
    simp only [dsts, List.mem_append]
    cases j with
    | zero => left; simp only [gslot, List.getElem?_cons_zero] at h; simp [h]
    | succ j => right; exact ih (j := j) (by simpa [gslot] using h)
noncomputable def skipO (o : Oper) (st : St) : St := (St.rec (motive := fun _ => St) (fun tm hp nx df => ⟨put tm o.dst .none_, hp, nx, df⟩) st)
/-- carried out or not -/
noncomputable def exO (E : Env) (go : Bool) (o : Oper) (st : St) (k : St → Tree) (kp : SV → St → Tree) : Tree := if go then opT E o st k kp else k (skipO o st)
noncomputable def exL (E : Env) (ops : List Oper) : List Oper → St → (St → Tree) → (SV → St → Tree) → Tree
  | [], st, k, _ => k st
  | o :: r, st, k, kp => match o.guard with
    | none => opT E o st (fun st => exL E ops r st k kp) kp
    | some (j, want) => (match gslot ops j with
      | none => .fail 230
      | some s => (match sget st.tm s with
        | .tt => exO E want o st (fun st => exL E ops r st k kp) kp
        | .ff => exO E (!want) o st (fun st => exL E ops r st k kp) kp
        | .none_ => exL E ops r (skipO o st) k kp
        | .b c => .split c (exO E want o { st with tm := sset st.tm s .tt } (fun st => exL E ops r st k kp) kp) (exO E (!want) o { st with tm := sset st.tm s .ff } (fun st => exL E ops r st k kp) kp)
        | _ => .fail 231))

theorem yielded_eq (ops : List Oper) (tm : Array Value) (j : Nat) : yielded ops.toArray tm j = match gslot ops j with
    | some s => (match tm.toList.getD s undef with | .bool b => some b | _ => none)
    | none => none := by
  unfold yielded gslot
  simp only [List.getElem?_toArray]
  cases ops[j]? with
  | none => rfl
  | some o =>
    simp only [Option.bind_some]
    cases o.dst with
    | none => rfl
    | some s =>
      simp only [Option.bind_some]
      rw [List.getD_eq_getElem?_getD, Array.getElem?_toList]
      cases tm[s]? with
      | none => simp [undef]
      | some v => cases v <;> simp

theorem set_same {α : Type} (l : List α) (i : Nat) (d v : α) (h : l.getD i d = v) : l.set i v = l ∨ i ≥ l.length := by
  by_cases hi : i < l.length
  · left
    rw [List.getD_eq_getElem?_getD, List.getElem?_eq_getElem hi] at h
    simp only [Option.getD_some] at h
    subst h
    simp
  · right; omega
theorem RelL.reset {ρ : Ren} {l : List SV} {vs : List Value} (h : RelL ρ l vs) (i : Nat) {x : SV} (hx : x.Rel ρ (vs.getD i undef)) : RelL ρ (lset l i x) vs := by
  have := h.set i hx
  rcases set_same vs i undef _ rfl with e | e
  · rw [e] at this; exact this
  · rw [List.set_eq_of_length_le e] at this; exact this

theorem exL_snd (hE : EnvOk P C.B E) (ops : List Oper) (k : St → Tree) (kp : SV → St → Tree) : ∀ (l : List Oper), (∀ s ∈ dsts l, s ∈ dsts ops) → ∀ (st : St), (exL E ops l st k kp).den Q → ∀ ρ a w, HS C ρ0 ρ st a w → ∀ (Qx : Exit → Act → World → Prop),
    (∀ st' ρ' a' w', Ag (dsts ops) st.tm st'.tm → HS C ρ0 ρ' st' a' w' → (k st').den Q → Qx .normal a' w') →
    (∀ x v st' ρ' a' w', Ag (dsts ops) st.tm st'.tm → SV.Rel ρ' x v → HS C ρ0 ρ' st' a' w' → (kp x st').den Q → Qx (.panic [{ v, recovered := false }]) a' w') → wpList P ops.toArray Qx l a w
  | [], hm, st, hk, ρ, a, w, H, Qx, hn, _ => wpList_nil (hn st ρ a w (.refl _ _) H hk)
  | o :: r, hm, st, hk, ρ, a, w, H, Qx, hn, hp => by
    have hmo : ∀ s ∈ o.dst.toList, s ∈ dsts ops := fun s hs => hm s (by simp only [dsts, List.mem_append]; exact .inl hs)
    have hmr : ∀ s ∈ dsts r, s ∈ dsts ops := fun s hs => hm s (by simp only [dsts, List.mem_append]; exact .inr hs)
    have go : ∀ (st1 : St), Ag (dsts ops) st.tm st1.tm → HS C ρ0 ρ st1 a w → (opT E o st1 (fun st => exL E ops r st k kp) kp).den Q → ∀ K : Act → World → Prop, (∀ a w, wpList P ops.toArray Qx r a w → K a w) → o.wp P a w K Qx := by
      intro st1 hag H1 hk1 K hK
      refine owes_op hE o st1 _ _ hk1 ρ a w H1 K Qx ?_ ?_
      · intro st' ρ' a' w' hag' H' hk'
        exact hK _ _ (exL_snd hE ops k kp r hmr st' hk' ρ' a' w' H' Qx (fun st2 ρ2 a2 w2 hag2 H2 hk2 => hn st2 ρ2 a2 w2 ((hag.trans (hag'.mono hmo)).trans hag2) H2 hk2)
          (fun x v st2 ρ2 a2 w2 hag2 hx H2 hk2 => hp x v st2 ρ2 a2 w2 ((hag.trans (hag'.mono hmo)).trans hag2) hx H2 hk2))
      · intro x v st' ρ' a' w' hag' hx H' hk'
        exact hp x v st' ρ' a' w' (hag.trans (hag'.mono hmo)) hx H' hk'
    have sk : ∀ (st1 : St), Ag (dsts ops) st.tm st1.tm → HS C ρ0 ρ st1 a w → (exL E ops r (skipO o st1) k kp).den Q → wpList P ops.toArray Qx r (a.put o.dst undef) w := by
      intro st1 hag H1 hk1
      refine exL_snd hE ops k kp r hmr _ hk1 ρ _ w (H1.put o.dst (x := .none_) (by simp only [SV.Rel])) Qx (fun st2 ρ2 a2 w2 hag2 H2 hk2 => hn st2 ρ2 a2 w2 ((hag.trans ((put_ag st1.tm o.dst .none_).mono hmo)).trans hag2) H2 hk2)
        (fun x v st2 ρ2 a2 w2 hag2 hx H2 hk2 => hp x v st2 ρ2 a2 w2 ((hag.trans ((put_ag st1.tm o.dst .none_).mono hmo)).trans hag2) hx H2 hk2)
    simp only [exL] at hk
    split at hk
    next hg => exact wpList_plain hg (go st (.refl _ _) H hk)
    next j want hg =>
      split at hk
      · exact hk.elim
      next s hs =>
        have hs' := gslot_mem hs
        have hv := H.tm.get s
        have both : ∀ (b : Bool) (st1 : St), Ag (dsts ops) st.tm st1.tm → HS C ρ0 ρ st1 a w → a.tmps.toList.getD s undef = .bool b → (exO E (if b then want else !want) o st1 (fun st => exL E ops r st k kp) kp).den Q → wpList P ops.toArray Qx (o :: r) a w := by
          intro b st1 hag H1 hb hk1
          have hy : yielded ops.toArray a.tmps j = some b := by rw [yielded_eq, hs]; simp only [hb]
          have hw : Region.wanted o (yielded ops.toArray a.tmps) = (if b then want else !want) := by
            simp only [Region.wanted, hg, hy]
            cases b <;> cases want <;> rfl
          refine wpList_step fun K hK => ?_
          rw [hw]
          generalize (if b then want else !want) = g at hk1 ⊢
          cases g with
          | true => exact go st1 hag H1 hk1 K hK
          | false => exact hK _ _ (sk st1 hag H1 hk1)
        have agl : ∀ x, Ag (dsts ops) st.tm (sset st.tm s x) := fun x => (put_ag st.tm (some s) x).mono (by simpa using hs')
        split at hk
        next e => rw [e] at hv; simp only [SV.Rel] at hv; exact both true st (.refl _ _) H hv hk
        next e => rw [e] at hv; simp only [SV.Rel] at hv; exact both false st (.refl _ _) H hv hk
        next e =>
          rw [e] at hv
          simp only [SV.Rel] at hv
          have hy : yielded ops.toArray a.tmps j = none := by rw [yielded_eq, hs]; simp only [hv]; rfl
          refine wpList_step fun K hK => ?_
          rw [if_neg (by simp [Region.wanted, hg, hy])]
          exact hK _ _ (sk st (.refl _ _) H hk)
        next c e =>
          rw [e] at hv
          simp only [SV.Rel] at hv
          cases c with
          | true => exact both true { st with tm := sset st.tm s .tt } (agl .tt) ⟨H.hp, H.tm.reset s (by simp only [SV.Rel]; exact hv), H.df, H.bd, H.le⟩ hv (hk.1 rfl)
          | false => exact both false { st with tm := sset st.tm s .ff } (agl .ff) ⟨H.hp, H.tm.reset s (by simp only [SV.Rel]; exact hv), H.df, H.bd, H.le⟩ hv (hk.2 rfl)
        · exact hk.elim
end
end SX
end Go.Proofs.YtnjaaagiindclaaGreatDoor

/-
  Regions that draw their order: what has been taken first is to last only until it has come up. No program in sight.
-/
namespace Go.Proofs.YtnjaaagiindclaaGreatDoor
open Go.RowKit Go.Deep

section
variable {P : Program} {ops : Array Oper} {Q : Exit → Act → World → Prop} {md : Region.Mode}

/-- j waits for k, perhaps by way of others -/
def waitsT (md : Region.Mode) (ops : Array Oper) : Nat → Nat → Nat → Bool
  | 0, _, _ => false
  | f + 1, j, k => match ops[j]? with
    | some o => o.after.any fun e => Region.binds md e && (Nat.beq e.on k || waitsT md ops f e.on k)
    | none => false
abbrev Taken := List (Nat × (World → Prop))
/-- whatever order is picked; what has been taken lasts over each operation that does not wait for it -/
def wpAnyJ (P : Program) (md : Region.Mode) (ops : Array Oper) (Q : Exit → Act → World → Prop) (N : Nat) (T : Taken) : Nat → Array Bool → Act → World → Prop
  | 0, listed, a, w => Region.ready md ops listed = [] ∧ Q .normal a w
  | fuel + 1, listed, a, w =>
    (Region.ready md ops listed = [] → Q .normal a w) ∧
    ∀ j ∈ Region.ready md ops listed, wpOp P ops Q j (fun a' w' => (∀ k ∈ T, waitsT md ops N j k.1 = false → k.2 w → k.2 w') ∧ wpAnyJ P md ops Q N T fuel (listed.setIfInBounds j true) a' w') a w

theorem wpAny_of_J {N : Nat} {T : Taken} : ∀ (fuel : Nat) (listed : Array Bool) (a : Act) (w : World), wpAnyJ P md ops Q N T fuel listed a w → wpAny P md ops Q fuel listed a w
  | 0, _, _, _, h => h
  | fuel + 1, _, _, _, h => ⟨h.1, fun i hi => wpOp_mono (fun a' w' h' => wpAny_of_J fuel _ a' w' h'.2) (h.2 i hi)⟩
theorem wpAnyJ_mono {N : Nat} {T T' : Taken} (hT : ∀ k ∈ T, k ∈ T') : ∀ (fuel : Nat) (listed : Array Bool) (a : Act) (w : World), wpAnyJ P md ops Q N T' fuel listed a w → wpAnyJ P md ops Q N T fuel listed a w
  | 0, _, _, _, h => h
  | fuel + 1, _, _, _, h => ⟨h.1, fun i hi => wpOp_mono (fun a' w' h' => ⟨fun k hk => h'.1 k (hT k hk), wpAnyJ_mono hT fuel _ a' w' h'.2⟩) (h.2 i hi)⟩

/-- what has come up has what it waits for behind it -/
def ClosedL (md : Region.Mode) (ops : Array Oper) (listed : Array Bool) : Prop := ∀ (j : Nat) (o : Oper), ops[j]? = some o → listed.getD j false = true → ∀ e ∈ o.after, Region.binds md e = true → listed.getD e.on false = true
theorem getD_set_true {l : Array Bool} {i k : Nat} (h : (l.setIfInBounds k true).getD i false = true) : i = k ∨ l.getD i false = true := by
  by_cases e : i = k
  · exact .inl e
  · right
    simpa [Array.getD_eq_getD_getElem?, Array.getElem?_setIfInBounds_ne (Ne.symm e)] using h
theorem getD_set_keep {l : Array Bool} {i k : Nat} (h : l.getD i false = true) : (l.setIfInBounds k true).getD i false = true := by
  simp only [Array.getD_eq_getD_getElem?] at h ⊢
  by_cases e : k = i
  · subst e
    by_cases hl : k < l.size
    · simp [hl]
    · simp [Array.getElem?_eq_none (Nat.le_of_not_lt hl)] at h
  · rw [Array.getElem?_setIfInBounds_ne e]; exact h
theorem closed_start (n : Nat) : ClosedL md ops (Array.replicate n false) := by
  intro j o _ h
  simp [Array.getD_eq_getD_getElem?, Array.getElem?_replicate] at h
  split at h <;> simp at h
theorem closed_set {listed : Array Bool} {j : Nat} (h : ClosedL md ops listed) (hj : j ∈ Region.ready md ops listed) : ClosedL md ops (listed.setIfInBounds j true) := by
  intro i o ho hl e he hb
  obtain ⟨_, oj, hoj, hall⟩ := mem_ready.1 hj
  rcases getD_set_true hl with rfl | h1
  · have : o = oj := Option.some.inj (ho.symm.trans hoj)
    subst this
    exact getD_set_keep (hall e he hb)
  · exact getD_set_keep (h i o ho h1 e he hb)
theorem waits_listed {listed : Array Bool} {i : Nat} (hc : ClosedL md ops listed) : ∀ (f j : Nat) (o : Oper), ops[j]? = some o → (∀ e ∈ o.after, Region.binds md e = true → listed.getD e.on false = true) → waitsT md ops f j i = true → listed.getD i false = true
  | 0, _, _, _, _, h => by simp [waitsT] at h
  | f + 1, j, o, ho, hd, h => by
    simp only [waitsT, ho, Array.any_eq_true, Bool.and_eq_true, Bool.or_eq_true] at h
    obtain ⟨x, hx, hb, h⟩ := h
    have hm : o.after[x] ∈ o.after := Array.getElem_mem hx
    have hl := hd _ hm hb
    rcases h with h | h
    · rw [← Nat.eq_of_beq_eq_true h]; exact hl
    · cases ho' : ops[o.after[x].on]? with
      | none =>
        cases f with
        | zero => simp [waitsT] at h
        | succ f => simp [waitsT, ho'] at h
      | some o' => exact waits_listed hc f _ o' ho' (fun e he hb => hc _ o' ho' hl e he hb) h
theorem not_waits {listed : Array Bool} {i j N : Nat} (hc : ClosedL md ops listed) (hj : j ∈ Region.ready md ops listed) (hi : listed.getD i true = false) : waitsT md ops N j i = false := by
  obtain ⟨_, o, ho, hall⟩ := mem_ready.1 hj
  cases h : waitsT md ops N j i with
  | false => rfl
  | true =>
    have h1 := waits_listed hc N j o ho hall h
    rcases Nat.lt_or_ge i listed.size with h' | h'
    · simp [Array.getD_eq_getD_getElem?, h'] at h1 hi; rw [hi] at h1; cases h1
    · simp [Array.getD_eq_getD_getElem?, Array.getElem?_eq_none h'] at h1

/-- an operation that yields its value in every world that meets C may be taken first, if what comes ahead of it keeps C -/
theorem wpAnyJ_first {C : World → Prop} {T : Taken} {N i : Nat} {oi : Oper} {v : Value} (hi : ops[i]? = some oi) (hsel : ∀ (j : Nat) (o : Oper) cs b, ops[j]? = some o → o.op ≠ .select cs b)
    (hQ : ∀ c a w, Q (.panic c) (a.put oi.dst v) w → Q (.panic c) a w) :
    ∀ (fuel : Nat) (listed : Array Bool) (a : Act) (w : World), ClosedL md ops listed →
      (∀ j oj, ops[j]? = some oj → j ≠ i → listed.getD j true = false → waitsT md ops N j i = false → oi.apart ops oj = true) →
      i ∈ Region.ready md ops listed → YieldsIf P ops C oi v a → C w →
      wpAnyJ P md ops Q N ((i, C) :: T) fuel (listed.setIfInBounds i true) (a.put oi.dst v) w → wpAnyJ P md ops Q N T (fuel + 1) listed a w := by
  intro fuel
  induction fuel with
  | zero =>
    intro listed a w hcl _ hr hy hS H
    refine ⟨fun h => (by rw [h] at hr; cases hr), fun j hj => ?_⟩
    by_cases hji : j = i
    · subst hji; exact hy.wpOp hi hS ⟨fun _ _ _ h => h, wpAnyJ_mono (fun k hk => by simp [hk]) _ _ _ _ H⟩
    · have := ready_mono hj hji
      rw [H.1] at this
      cases this
  | succ fuel ih =>
    intro listed a w hcl hfree hr hy hS H
    refine ⟨fun h => (by rw [h] at hr; cases hr), fun j hj => ?_⟩
    by_cases hji : j = i
    · subst hji; exact hy.wpOp hi hS ⟨fun _ _ _ h => h, wpAnyJ_mono (fun k hk => by simp [hk]) _ _ _ _ H⟩
    · have h1 := H.2 j (ready_mono hj hji)
      obtain ⟨hjun, oj, hoj, hall⟩ := mem_ready.1 hj
      have h0 := (mem_ready.1 hr).1
      have h2 := wpOp_putIf hoj (hfree j oj hoj hji hjun (not_waits hcl hj h0)) (fun cs b => hsel i oi cs b hi) (fun cs b => hsel j oj cs b hoj) hQ hy h1
      have hfree' : ∀ k ok, ops[k]? = some ok → k ≠ i → (listed.setIfInBounds j true).getD k true = false →
          waitsT md ops N k i = false → oi.apart ops ok = true := fun k ok hk hki hun hno => by
        refine hfree k ok hk hki ?_ hno
        by_cases hjk : j = k
        · subst hjk; exact hjun
        · rw [getD_set_ne true hjk] at hun; exact hun
      refine wpOp_mono (fun a' w' h3 => ⟨fun k hk => h3.2.1 k (by simp [hk]), ih (listed.setIfInBounds j true) a' w' (closed_set hcl hj) hfree' (ready_mono hr (Ne.symm hji)) h3.1 (h3.2.1 (i, C) (by simp) (not_waits hcl hj h0) hS) ?_⟩) h2
      rw [Array.setIfInBounds_comm _ _ hji]
      exact h3.2.2

theorem wp_region_J {id N : Nat} {a : Act} {w : World} (hm : P.follows .mixedOrders = true)
    (h : wpAnyJ P .any ops Q N [] ops.size (Array.replicate ops.size false) a { w with drawn := w.drawn + 1 }) : (Code.region id ops true).wp P Q a w :=
  wp_region_any hm (wpAny_of_J _ _ _ _ h)

/-- it ends somewhere -/
theorem wpOp_ex {i : Nat} {K : Act → World → Prop} {a : Act} {w : World} (h : wpOp P ops Q i K a w) : (∃ a w, K a w) ∨ ∃ e a w, Q e a w := by
  unfold wpOp at h
  split at h
  · exact .inl ⟨_, _, h⟩
  next o ho =>
    split at h
    next hw =>
      rcases h with h | ⟨_, a, w, h⟩
      · unfold Oper.wp at h
        generalize (execOp a.eval o).run P w = r at h
        unfold Oper.upon at h
        split at h
        · exact .inl ⟨_, _, h⟩
        · exact .inl ⟨_, _, h⟩
        · exact .inl ⟨_, _, h⟩
        · obtain ⟨e, w', _, hR, _⟩ := h []
          cases e with
          | returned v => exact .inl ⟨_, _, hR⟩
          | panicked c => exact .inr ⟨_, _, _, hR⟩
          | outgrown => obtain ⟨a, w, hR⟩ := hR; exact .inr ⟨_, _, _, hR⟩
        · obtain ⟨v, w', hR, _⟩ := h default []
          exact .inl ⟨_, _, hR⟩
        · exact .inr ⟨_, _, _, h⟩
        · exact h.elim
      · exact .inr ⟨_, _, _, h⟩
    next => exact .inl ⟨_, _, h⟩
theorem wpAnyJ_ex {N : Nat} {T : Taken} : ∀ (fuel : Nat) (listed : Array Bool) (a : Act) (w : World), wpAnyJ P md ops Q N T fuel listed a w → ∃ e a w, Q e a w
  | 0, _, _, _, h => ⟨_, _, _, h.2⟩
  | fuel + 1, listed, a, w, h => by
    cases hr : Region.ready md ops listed with
    | nil => exact ⟨_, _, _, h.1 hr⟩
    | cons j l =>
      rcases wpOp_ex (h.2 j (by rw [hr]; simp)) with ⟨a', w', _, h'⟩ | h'
      · exact wpAnyJ_ex fuel _ a' w' h'
      · exact h'
end
end Go.Proofs.YtnjaaagiindclaaGreatDoor

/-
  SX: regions that draw their order. No program in sight.
-/
namespace Go.Proofs.YtnjaaagiindclaaGreatDoor
open Go.RowKit Go.Deep
namespace SX

/-! values that their shadow determines -/
mutual
def detP : SV → Prop
  | .sl _ _ _ _ len cap => 0 < len ∨ cap.posP ∨ cap.zz
  | .fn _ cap => detL cap
  | .ifc _ x => detP x
  | .agg l => detL l
  | .tup l => detL l
  | .junk => False
  | _ => True
def detL : List SV → Prop
  | [] => True
  | x :: l => detP x ∧ detL l
end
mutual
theorem det_eq {ρ : Ren} : ∀ (x : SV) (v v' : Value), detP x → x.Rel ρ v → x.Rel ρ v' → v = v'
  | .sl l b sz f n c, v, v', h, r, r' => by
    simp only [detP] at h
    simp only [SV.Rel] at r r'
    obtain ⟨a, z, rfl, hi, hl, h1⟩ := r
    obtain ⟨a', z', rfl, hi', _, h2⟩ := r'
    have := hi.uniq hi'
    subst this
    have hz : 0 < z ∨ c.zz := h.elim (fun h => .inl (by omega)) (Or.imp (fun h => Cap.posP_is h hi) id)
    have hb : c.hasB := hz.elim (Cap.hasB_of hi) (fun h => by cases c <;> first | trivial | exact h.elim)
    obtain ⟨g, e, h1⟩ := h1 hb
    obtain ⟨g', e', h2⟩ := h2 hb
    rw [h1 hz, h2 hz]
    rw [e] at e'; cases e'; rfl
  | .fn f cap, v, v', h, r, r' => by
    simp only [detP] at h
    simp only [SV.Rel] at r r'
    obtain ⟨c, rfl, r⟩ := r
    obtain ⟨c', rfl, r'⟩ := r'
    rw [Array.toList_inj.1 (detL_eq cap _ _ h r r')]
  | .ifc t x, v, v', h, r, r' => by
    simp only [detP] at h
    simp only [SV.Rel] at r r'
    obtain ⟨c, rfl, r⟩ := r
    obtain ⟨c', rfl, r'⟩ := r'
    rw [det_eq x _ _ h r r']
  | .agg l, v, v', h, r, r' => by
    simp only [detP] at h
    simp only [SV.Rel] at r r'
    obtain ⟨c, rfl, r⟩ := r
    obtain ⟨c', rfl, r'⟩ := r'
    rw [Array.toList_inj.1 (detL_eq l _ _ h r r')]
  | .tup l, v, v', h, r, r' => by
    simp only [detP] at h
    simp only [SV.Rel] at r r'
    obtain ⟨c, rfl, r⟩ := r
    obtain ⟨c', rfl, r'⟩ := r'
    rw [Array.toList_inj.1 (detL_eq l _ _ h r r')]
  | .junk, _, _, h, _, _ => by simp only [detP] at h
  | .tt, _, _, _, r, r' => by simp only [SV.Rel] at r r'; rw [r, r']
  | .ff, _, _, _, r, r' => by simp only [SV.Rel] at r r'; rw [r, r']
  | .b _, _, _, _, r, r' => by simp only [SV.Rel] at r r'; rw [r, r']
  | .l _ _, _, _, _, r, r' => by simp only [SV.Rel] at r r'; rw [r, r']
  | .i _ _, _, _, _, r, r' => by simp only [SV.Rel] at r r'; rw [r, r']
  | .s _, _, _, _, r, r' => by simp only [SV.Rel] at r r'; rw [r, r']
  | .p _ _, _, _, _, r, r' => by
    simp only [SV.Rel] at r r'
    obtain ⟨g, e, rfl⟩ := r
    obtain ⟨g', e', rfl⟩ := r'
    rw [e] at e'; cases e'; rfl
  | .rp _ _, _, _, _, r, r' => by simp only [SV.Rel] at r r'; rw [r, r']
  | .f _ _, _, _, _, r, r' => by simp only [SV.Rel] at r r'; rw [r, r']
  | .t _, _, _, _, r, r' => by simp only [SV.Rel] at r r'; rw [r, r']
  | .v _, _, _, _, r, r' => by simp only [SV.Rel] at r r'; rw [r, r']
  | .np, _, _, _, r, r' => by simp only [SV.Rel] at r r'; rw [r, r']
  | .ns, _, _, _, r, r' => by simp only [SV.Rel] at r r'; rw [r, r']
  | .m _, _, _, _, r, r' => by
    simp only [SV.Rel] at r r'
    obtain ⟨g, e, rfl⟩ := r
    obtain ⟨g', e', rfl⟩ := r'
    rw [e] at e'; cases e'; rfl
  | .nu _, _, _, _, r, r' => by
    simp only [SV.Rel] at r r'
    obtain ⟨g, e, rfl⟩ := r
    obtain ⟨g', e', rfl⟩ := r'
    rw [e] at e'; cases e'; rfl
  | .nm, _, _, _, r, r' => by simp only [SV.Rel] at r r'; rw [r, r']
  | .nf, _, _, _, r, r' => by simp only [SV.Rel] at r r'; rw [r, r']
  | .ni, _, _, _, r, r' => by simp only [SV.Rel] at r r'; rw [r, r']
  | .none_, _, _, _, r, r' => by simp only [SV.Rel] at r r'; rw [r, r']
theorem detL_eq {ρ : Ren} : ∀ (l : List SV) (v v' : List Value), detL l → RelL ρ l v → RelL ρ l v' → v = v'
  | [], _, _, _, r, r' => by simp only [RelL] at r r'; rw [r, r']
  | x :: l, v, v', h, r, r' => by
    simp only [detL] at h
    simp only [RelL] at r r'
    obtain ⟨a, q, rfl, r1, r2⟩ := r
    obtain ⟨a', q', rfl, r1', r2'⟩ := r'
    rw [det_eq x _ _ h.1 r1 r1', detL_eq l _ _ h.2 r2 r2']
end
mutual
def detB : SV → Bool
  | .sl .. => false
  | .fn _ cap => detBL cap
  | .ifc _ x => detB x
  | .agg l => detBL l
  | .tup l => detBL l
  | .junk => false
  | _ => true
def detBL : List SV → Bool
  | [] => true
  | x :: l => detB x && detBL l
end
mutual
theorem detB_P : ∀ (x : SV), detB x = true → detP x
  | .sl .., h => by simp only [detB, Bool.false_eq_true] at h
  | .fn _ cap, h => by simp only [detB] at h; simp only [detP]; exact detBL_P cap h
  | .ifc _ x, h => by simp only [detB] at h; simp only [detP]; exact detB_P x h
  | .agg l, h => by simp only [detB] at h; simp only [detP]; exact detBL_P l h
  | .tup l, h => by simp only [detB] at h; simp only [detP]; exact detBL_P l h
  | .junk, h => by simp only [detB, Bool.false_eq_true] at h
  | .tt, _ | .ff, _ | .b _, _ | .l _ _, _ | .i _ _, _ | .s _, _ | .rp _ _, _ | .f _ _, _ | .t _, _ | .v _, _ | .p _ _, _ | .np, _ | .ns, _ | .m _, _ | .nu _, _ | .nm, _ | .nf, _ | .ni, _ | .none_, _ => by simp only [detP]
theorem detBL_P : ∀ (l : List SV), detBL l = true → detL l
  | [], _ => by simp only [detL]
  | x :: l, h => by
    simp only [detBL, Bool.and_eq_true] at h
    simp only [detL]
    exact ⟨detB_P x h.1, detBL_P l h.2⟩
end
noncomputable def needDet (y : SV) (T : Tree) : Tree := if detB y then T else match y with
  | .sl lit _ _ _ len cap => if isZ cap then T else needL (lit && Nat.blt 0 len) (0 < len ∨ cap.posP) (Nat.blt 0 len) T 281
  | _ => .fail 282
theorem needDet_snd {Q : Ex → St → Prop} {y : SV} {T : Tree} (h : (needDet y T).den Q) {ρ : Ren} {u : Value} (r : y.Rel ρ u) : detP y ∧ T.den Q := by
  unfold needDet at h
  split at h
  next hb => exact ⟨detB_P y hb, h⟩
  next =>
    split at h
    next =>
      split at h
      next hz => exact ⟨by simp only [detP]; exact .inr (.inr (isZ_zz hz)), h⟩
      next =>
        obtain ⟨h0, h⟩ := needL_snd (fun e => .inl (blt_lt e)) h
        exact ⟨by simp only [detP]; exact h0.imp id .inl, h⟩
    · exact h.elim
/-- the same again: of two shadows -/
def sameV (x y : SV) : Prop := mtV 1000000000 0 x y [] fun _ => True
theorem mt_same {x y : SV} (h : sameV x y) {ρ : Ren} {v : Value} (r : x.Rel ρ v) : y.Rel ρ v := by
  obtain ⟨θ, _, _, h3⟩ := mtV_snd x y [] _ h
  refine h3 ρ ρ ⟨fun _ _ => rfl, fun b' b hr => ?_⟩ v r
  simp only [inR, Bool.and_eq_true] at hr
  have h1 := Nat.le_of_ble_eq_true hr.1
  have h2 := blt_lt hr.2
  omega

section
variable {P : Program} {C : Ctx} {ρ0 : Ren} {Q : Ex → St → Prop} {o : Oper} {st : St} {E : Env}

/-! guards -/
noncomputable def exG (ops : List Oper) (o : Oper) (st : St) (yes no : St → Tree) : Tree := match o.guard with
  | none => yes st
  | some (j, want) => (match gslot ops j with
    | none => .fail 272
    | some s => (match sget st.tm s with
      | .tt => if want then yes st else no st
      | .ff => if want then no st else yes st
      | .none_ => no st
      | .b c => .split c (if want then yes { st with tm := sset st.tm s .tt } else no { st with tm := sset st.tm s .tt }) (if want then no { st with tm := sset st.tm s .ff } else yes { st with tm := sset st.tm s .ff })
      | _ => .fail 273))
theorem exG_snd {ops : List Oper} {o : Oper} {yes no : St → Tree} (hk : (exG ops o st yes no).den Q) {ρ : Ren} {a : Act} {w : World} (H : HS C ρ0 ρ st a w) :
    ∃ st1 g, HS C ρ0 ρ st1 a w ∧ Ag (dsts ops) st.tm st1.tm ∧ Region.wanted o (yielded ops.toArray a.tmps) = g ∧ (if g then yes st1 else no st1).den Q := by
  unfold exG at hk
  split at hk
  next hg => exact ⟨st, true, H, .refl _ _, by simp only [Region.wanted, hg], hk⟩
  next j want hg =>
    split at hk
    · exact hk.elim
    next s hs =>
      have hs' := gslot_mem hs
      have hv := H.tm.get s
      have wt : ∀ b : Bool, a.tmps.toList.getD s undef = .bool b → Region.wanted o (yielded ops.toArray a.tmps) = (if b then want else !want) := by
        intro b hb
        have hy : yielded ops.toArray a.tmps j = some b := by rw [yielded_eq, hs]; simp only [hb]
        simp only [Region.wanted, hg, hy]
        cases b <;> cases want <;> rfl
      have agl : ∀ x, Ag (dsts ops) st.tm (sset st.tm s x) := fun x => (put_ag st.tm (some s) x).mono (by simpa using hs')
      split at hk
      next e => rw [e] at hv; simp only [SV.Rel] at hv; exact ⟨st, want, H, .refl _ _, wt true hv, hk⟩
      next e => rw [e] at hv; simp only [SV.Rel] at hv; exact ⟨st, !want, H, .refl _ _, wt false hv, by cases want <;> exact hk⟩
      next e =>
        rw [e] at hv
        simp only [SV.Rel] at hv
        have hy : yielded ops.toArray a.tmps j = none := by rw [yielded_eq, hs]; simp only [hv]; rfl
        exact ⟨st, false, H, .refl _ _, by simp [Region.wanted, hg, hy], hk⟩
      next c e =>
        rw [e] at hv
        simp only [SV.Rel] at hv
        cases c with
        | true => exact ⟨{ st with tm := sset st.tm s .tt }, want, ⟨H.hp, H.tm.reset s (by simp only [SV.Rel]; exact hv), H.df, H.bd, H.le⟩, agl _, wt true hv, hk.1 rfl⟩
        | false => exact ⟨{ st with tm := sset st.tm s .ff }, !want, ⟨H.hp, H.tm.reset s (by simp only [SV.Rel]; exact hv), H.df, H.bd, H.le⟩, agl _, wt false hv, by cases want <;> exact hk.2 rfl⟩
      · exact hk.elim

/-! which operations may be taken first -/
/-- calls of built-in functions that ask nothing of memory -/
noncomputable def kindC (c : Call) (st : St) : Nat := match c.callee with
  | .builtin b => (match c.args.toList with
    | [x] => (match b with
      | .len => (match opnd st.tm x with
        | .m _ => 0
        | .nm => 0
        | _ => 1)
      | _ => 0)
    | [_, _] => (match b with
      | .min => 1
      | .max => 1
      | _ => 0)
    | _ => 0)
  | _ => 0
noncomputable def opVC (E : Env) (o : Oper) (c : Call) (st : St) (k : St → Tree) : Tree := match c.callee with
  | .builtin b => (match c.args.toList with
    | [x] => (match c.argTypes.toList with
      | [t] => (match b with
        | .len => opLen E.ty st o.dst t (opnd st.tm x) k
        | _ => .fail 220)
      | _ => .fail 221)
    | [x, y] => (match b with
      | .min => opMin false st o.dst (opnd st.tm x) (opnd st.tm y) k
      | .max => opMin true st o.dst (opnd st.tm x) (opnd st.tm y) k
      | _ => .fail 222)
    | _ => .fail 223)
  | _ => .fail 224
noncomputable def kindQ (o : Oper) (st : St) : Nat := match o.op with
  | .move _ => 1
  | .assign _ => 1
  | .pick .. => 1
  | .fieldAddr .. => 1
  | .indexAddr .. => 1
  | .nilCheck _ => 1
  | .binOp _ _ x y _ => (match two (opnd st.tm x) (opnd st.tm y) with | some _ => 0 | none => 1)
  | .unOp .. => 1
  | .convert .. => 1
  | .extract .. => 1
  | .build .. => 1
  | .field .. => 1
  | .index .. => 1
  | .makeInterface .. => 1
  | .typeAssert .. => 1
  | .slice _ _ _ _ mx => (match mx with | none => 1 | some _ => 0)
  | .makeFunc f first _ => (match f with
    | .func _ => (match first.toList with | [] => 1 | _ => 0)
    | _ => 0)
  | .load .. => 2
  | .call c => kindC c st
  | _ => 0
noncomputable def opV (E : Env) (o : Oper) (st : St) (k : St → Tree) : Tree := match o.op with
  | .move x => ret st o.dst (opnd st.tm x) k
  | .assign x => ret st o.dst (opnd st.tm x) k
  | .pick c x y => opPick st o.dst (opnd st.tm c) (opnd st.tm x) (opnd st.tm y) k
  | .build t ps => opBuild E.ty st o.dst t (ps.toList.map fun p => (p.1, opnd st.tm p.2)) k
  | .nilCheck x => opNilCheck st o.dst (opnd st.tm x) k
  | .binOp op t x y _ => opBin E.ty E.wr st o.dst op t (isC y) (opnd st.tm x) (opnd st.tm y) k
  | .unOp op _ x => opUn st o.dst op (opnd st.tm x) k
  | .convert s t x => opConv E.ty E.wr st o.dst s t (opnd st.tm x) k
  | .makeFunc f first xs => (match f with
    | .func f => (match first.toList with
      | [] => opFunc st o.dst f (xs.toList.map (opnd st.tm)) k
      | _ => (match xs.toList with
        | [] => opMeth st o.dst f (first.toList.map (opnd st.tm)) k
        | _ => .fail 225))
    | _ => .fail 226)
  | .makeInterface t x => opMkIfc E.ty st o.dst t (opnd st.tm x) k
  | .typeAssert x _ t ok => opAssert E.ty st o.dst (opnd st.tm x) t ok k
  | .slice t x lo hi mx => (match mx with
    | none => opSlice E.ty st o.dst t (opnd st.tm x) (lo.map (opnd st.tm)) (hi.map (opnd st.tm)) k
    | some _ => .fail 227)
  | .fieldAddr t x f => opField E.ty st o.dst t (opnd st.tm x) f k
  | .field t x f => opPart E.ty st o.dst t (opnd st.tm x) f k
  | .indexAddr t x i => opIndex E.ty st o.dst t (opnd st.tm x) (opnd st.tm i) k
  | .index t x i => opStrIx E.ty st o.dst t (opnd st.tm x) (opnd st.tm i) k
  | .extract x i => opExtract st o.dst (opnd st.tm x) i k
  | .call c => opVC E o c st k
  | _ => .fail 228
theorem owesV_fail (n : Nat) : OwesV P Q o st (fun _ => .fail n) := fun _ hk => hk.elim
theorem owesV_call (hE : EnvOk P C.B E) (o : Oper) (c : Call) (h : o.op = .call c) (st : St) : OwesV P Q o st (opVC E o c st) := by
  unfold opVC
  cases hc : c.callee with
  | builtin b =>
    simp only
    cases ha : c.args.toList with
    | nil => exact owesV_fail _
    | cons x l =>
      cases l with
      | nil =>
        simp only
        cases ht : c.argTypes.toList with
        | nil => exact owesV_fail _
        | cons t m =>
          cases m with
          | nil =>
            simp only
            cases b <;> first | exact owes_len hE.ty c t x h hc (arr1 ha) (arr1 ht) | exact owesV_fail _
          | cons _ _ => exact owesV_fail _
      | cons y l =>
        cases l with
        | nil =>
          simp only
          cases b <;> first | exact owes_min false c x y h hc (arr1 ha) | exact owes_min true c x y h hc (arr1 ha) | exact owesV_fail _
        | cons _ _ => exact owesV_fail _
  | _ => exact owesV_fail _
theorem owesV_op (hE : EnvOk P C.B E) (o : Oper) (st : St) : OwesV P Q o st (opV E o st) := by
  unfold opV
  cases h : o.op with
  | move x => exact owes_move x h
  | assign x => exact owes_assign x h
  | pick c x y => exact owes_pick c x y h
  | build t ps => exact owes_build hE.ty t ps h
  | nilCheck x => exact owes_nilCheck x h
  | binOp op t x y t' => exact owes_bin hE.ty E.wr op t x y t' h
  | unOp op t x => exact owes_un op t x h
  | convert s t x => exact owes_conv hE.ty E.wr s t x h
  | makeFunc f first xs =>
    cases f with
    | func f =>
      simp only
      cases hf : first.toList with
      | nil => exact owes_func f xs (by rw [h, arr1 hf])
      | cons _ _ =>
        simp only
        cases hx : xs.toList with
        | nil => rw [← hf]; exact owes_meth f first (by rw [h, arr1 hx])
        | cons _ _ => exact owesV_fail _
    | _ => exact owesV_fail _
  | makeInterface t x => exact owes_mkIfc hE.ty t x h
  | typeAssert x xt t ok => exact owes_assert hE.ty x xt t ok h
  | slice t x lo hi mx =>
    cases mx with
    | none => exact owes_slice hE.ty t x lo hi h
    | some _ => exact owesV_fail _
  | fieldAddr t x f => exact owes_field hE.ty t x f h
  | field t x f => exact owes_part hE.ty t x f h
  | indexAddr t x i => exact owes_index hE.ty t x i h
  | index t x i => exact owes_strIx hE.ty t x i h
  | extract x i => exact owes_extract x i h
  | call c => exact owesV_call hE o c h st
  | _ => exact owesV_fail _
end
end SX
end Go.Proofs.YtnjaaagiindclaaGreatDoor

/-
  SX: regions that draw their order, walked. No program in sight.
-/
namespace Go.Proofs.YtnjaaagiindclaaGreatDoor
open Go.RowKit Go.Deep
namespace SX

/-! sets of small numbers as numbers -/
def bit (m i : Nat) : Bool := Nat.beq (Nat.land (Nat.shiftRight m i) 1) 1
theorem bit_eq (m i : Nat) : bit m i = m.testBit i := by
  unfold bit Nat.testBit
  have h1 : Nat.land (Nat.shiftRight m i) 1 = 1 &&& (m >>> i) := by
    show (m >>> i) &&& 1 = _
    rw [Nat.and_comm]
  rw [h1]
  have h2 : (1 &&& (m >>> i)) < 2 := by
    rw [Nat.one_and_eq_mod_two]
    omega
  generalize 1 &&& (m >>> i) = x at h2
  match x, h2 with
  | 0, _ => rfl
  | 1, _ => rfl
noncomputable def maskOf (l : List Nat) : Nat := List.rec (motive := fun _ => Nat) 0 (fun t _ ih => Nat.lor (Nat.shiftLeft 1 t) ih) l
theorem bit_maskOf (l : List Nat) (i : Nat) : bit (maskOf l) i = true ↔ i ∈ l := by
  rw [bit_eq]
  induction l with
  | nil => simp [maskOf]
  | cons t l ih =>
    show ((1 <<< t) ||| maskOf l).testBit i = true ↔ _
    rw [Nat.testBit_or, Bool.or_eq_true, ih, List.mem_cons, Nat.one_shiftLeft, Nat.testBit_two_pow, decide_eq_true_eq]
    exact or_congr_left eq_comm
theorem land_zero {a b : Nat} (h : Nat.beq (Nat.land a b) 0 = true) (i : Nat) (ha : bit a i = true) (hb : bit b i = true) : False := by
  have h1 : a &&& b = 0 := Nat.eq_of_beq_eq_true h
  have h2 : (a &&& b).testBit i = true := by rw [Nat.testBit_and, ← bit_eq, ← bit_eq, ha, hb]; rfl
  rw [h1] at h2
  simp at h2
theorem land_same {a b : Nat} : Nat.beq (Nat.land a b) a = true ↔ ∀ i, bit a i = true → bit b i = true := by
  rw [Nat.beq_eq]
  show a &&& b = a ↔ _
  constructor
  · intro h i hi
    rw [bit_eq] at hi ⊢
    rw [← h, Nat.testBit_and, Bool.and_eq_true] at hi
    exact hi.2
  · intro h
    apply Nat.eq_of_testBit_eq
    intro i
    rw [Nat.testBit_and]
    have := h i
    rw [bit_eq, bit_eq] at this
    cases ha : a.testBit i
    · rfl
    · rw [this ha]; rfl
theorem bit_or (a b i : Nat) : bit (Nat.lor a b) i = (bit a i || bit b i) := by
  rw [bit_eq, bit_eq, bit_eq]
  exact Nat.testBit_or a b i
theorem bit_one (t i : Nat) : bit (Nat.shiftLeft 1 t) i = true ↔ i = t := by
  rw [bit_eq]
  show (1 <<< t).testBit i = true ↔ _
  rw [Nat.one_shiftLeft, Nat.testBit_two_pow, decide_eq_true_eq]
  exact eq_comm

/-! what waits for what -/
def bindsA (e : Edge) : Bool := match e.ground with
  | .textOnly _ => false
  | .gcOnly _ => false
  | _ => true
theorem bindsA_eq (e : Edge) : Region.binds .any e = bindsA e := by
  unfold Region.binds bindsA
  cases e.ground <;> rfl
/-- what an operation waits for -/
noncomputable def pmL (l : List Edge) : Nat := List.rec (motive := fun _ => Nat) 0 (fun e _ ih => Bool.rec (motive := fun _ => Nat) ih (Nat.lor (Nat.shiftLeft 1 e.on) ih) (bindsA e)) l
theorem bit_pmL (l : List Edge) (i : Nat) : bit (pmL l) i = true ↔ ∃ e ∈ l, bindsA e = true ∧ e.on = i := by
  induction l with
  | nil => simp [pmL, bit_eq]
  | cons e l ih =>
    show bit (Bool.rec (motive := fun _ => Nat) (pmL l) (Nat.lor (Nat.shiftLeft 1 e.on) (pmL l)) (bindsA e)) i = true ↔ _
    cases hb : bindsA e with
    | false =>
      show bit (pmL l) i = true ↔ _
      rw [ih]
      constructor
      · rintro ⟨e', h1, h2⟩; exact ⟨e', by simp [h1], h2⟩
      · rintro ⟨e', h1, h2, h3⟩
        rcases List.mem_cons.1 h1 with rfl | h1
        · rw [hb] at h2; cases h2
        · exact ⟨e', h1, h2, h3⟩
    | true =>
      show bit (Nat.lor (Nat.shiftLeft 1 e.on) (pmL l)) i = true ↔ _
      rw [bit_or, Bool.or_eq_true, bit_one, ih]
      constructor
      · rintro (rfl | ⟨e', h1, h2⟩)
        · exact ⟨e, by simp, hb, rfl⟩
        · exact ⟨e', by simp [h1], h2⟩
      · rintro ⟨e', h1, h2, h3⟩
        rcases List.mem_cons.1 h1 with rfl | h1
        · exact .inl h3.symm
        · exact .inr ⟨e', h1, h2, h3⟩
noncomputable def getN (l : List Nat) : Nat → Nat :=
  List.rec (motive := fun _ => Nat → Nat) (fun _ => 0) (fun x _ ih n => Nat.rec (motive := fun _ => Nat) x (fun m _ => ih m) n) l
theorem getN_eq (l : List Nat) (i : Nat) : getN l i = l.getD i 0 := by
  induction l generalizing i with
  | nil => rfl
  | cons x l ih => cases i with
    | zero => rfl
    | succ i => exact ih i
/-- the same, by way of others: acc has what those ahead wait for -/
noncomputable def tmL (acc : List Nat) (l : List Edge) : Nat := List.rec (motive := fun _ => Nat) 0 (fun e _ ih => Bool.rec (motive := fun _ => Nat) ih (Nat.lor (Nat.lor (Nat.shiftLeft 1 e.on) (getN acc e.on)) ih) (bindsA e)) l
theorem bit_tmL (acc : List Nat) (l : List Edge) (i : Nat) (h : bit (tmL acc l) i = true) : ∃ e ∈ l, bindsA e = true ∧ (e.on = i ∨ bit (getN acc e.on) i = true) := by
  induction l with
  | nil => simp [tmL, bit_eq] at h
  | cons e l ih =>
    have h' : bit (Bool.rec (motive := fun _ => Nat) (tmL acc l) (Nat.lor (Nat.lor (Nat.shiftLeft 1 e.on) (getN acc e.on)) (tmL acc l)) (bindsA e)) i = true := h
    cases hb : bindsA e with
    | false =>
      rw [hb] at h'
      obtain ⟨e', h1, h2⟩ := ih h'
      exact ⟨e', by simp [h1], h2⟩
    | true =>
      rw [hb] at h'
      have h2 : bit (Nat.lor (Nat.lor (Nat.shiftLeft 1 e.on) (getN acc e.on)) (tmL acc l)) i = true := h'
      rw [bit_or, bit_or, Bool.or_eq_true, Bool.or_eq_true, bit_one] at h2
      rcases h2 with (rfl | h2) | h2
      · exact ⟨e, by simp, hb, .inl rfl⟩
      · exact ⟨e, by simp, hb, .inr h2⟩
      · obtain ⟨e', h1, h3⟩ := ih h2
        exact ⟨e', by simp [h1], h3⟩
structure Row where
  j : Nat
  o : Oper
  pm : Nat
  tm : Nat
noncomputable def mkRows : List Oper → Nat → List Nat → List Row
  | [], _, _ => []
  | o :: r, j, acc => ⟨j, o, pmL o.after.toList, tmL acc o.after.toList⟩ :: mkRows r (j + 1) (acc ++ [tmL acc o.after.toList])
theorem waitsT_mono {md : Region.Mode} {ops : Array Oper} : ∀ (f : Nat) {j k : Nat}, waitsT md ops f j k = true → waitsT md ops (f + 1) j k = true
  | 0, _, _, h => by simp [waitsT] at h
  | f + 1, j, k, h => by
    cases ho : ops[j]? with
    | none => simp [waitsT, ho] at h
    | some o =>
      have e1 : waitsT md ops (f + 1) j k = o.after.any fun e => Region.binds md e && (Nat.beq e.on k || waitsT md ops f e.on k) := by simp only [waitsT, ho]
      have e2 : waitsT md ops (f + 1 + 1) j k = o.after.any fun e => Region.binds md e && (Nat.beq e.on k || waitsT md ops (f + 1) e.on k) := by
        rw [waitsT]
        simp only [ho]
      rw [e1, Array.any_eq_true'] at h
      rw [e2, Array.any_eq_true']
      obtain ⟨e, he, hb⟩ := h
      refine ⟨e, he, ?_⟩
      simp only [Bool.and_eq_true, Bool.or_eq_true] at hb ⊢
      exact ⟨hb.1, hb.2.imp id (fun h => waitsT_mono f h)⟩
theorem waitsT_le {md : Region.Mode} {ops : Array Oper} {f g j k : Nat} (hfg : f ≤ g) (h : waitsT md ops f j k = true) : waitsT md ops g j k = true := by
  induction hfg with
  | refl => exact h
  | step _ ih => exact waitsT_mono _ ih
theorem mkRows_spec {ops : List Oper} : ∀ (l : List Oper) (j : Nat) (acc : List Nat), acc.length = j → ops.drop j = l → (∀ i k, bit (getN acc i) k = true → waitsT .any ops.toArray (i + 1) i k = true) →
    (∀ r ∈ mkRows l j acc, ops[r.j]? = some r.o ∧ j ≤ r.j ∧ r.pm = pmL r.o.after.toList ∧ ∀ k, bit r.tm k = true → waitsT .any ops.toArray (r.j + 1) r.j k = true) ∧
    ∀ i o, j ≤ i → ops[i]? = some o → ∃ r ∈ mkRows l j acc, r.j = i ∧ r.o = o
  | [], j, acc, _, hd, _ => by
    refine ⟨by simp [mkRows], fun i o hi ho => ?_⟩
    have := List.drop_eq_nil_iff.1 hd
    rw [List.getElem?_eq_none (by omega)] at ho
    cases ho
  | o :: l, j, acc, hl, hd, hw => by
    have hoj : ops[j]? = some o := by
      have : (ops.drop j)[0]? = some o := by rw [hd]; rfl
      rw [List.getElem?_drop] at this
      simpa using this
    have hd' : ops.drop (j + 1) = l := by
      have : (ops.drop j).drop 1 = l := by rw [hd]; rfl
      rw [List.drop_drop] at this
      exact this
    have hnew : ∀ k, bit (tmL acc o.after.toList) k = true → waitsT .any ops.toArray (j + 1) j k = true := by
      intro k hk
      obtain ⟨e, he, hb, h⟩ := bit_tmL acc _ k hk
      rw [waitsT]
      have : ops.toArray[j]? = some o := by simpa using hoj
      simp only [this]
      rw [Array.any_eq_true']
      refine ⟨e, by simpa using he, ?_⟩
      simp only [Bool.and_eq_true, Bool.or_eq_true, bindsA_eq]
      refine ⟨hb, h.imp (fun h => by rw [h]; exact Nat.beq_refl k) fun h => ?_⟩
      have hlt : e.on < acc.length := by
        rcases Nat.lt_or_ge e.on acc.length with h1 | h1
        · exact h1
        · rw [getN_eq, List.getD_eq_getElem?_getD, List.getElem?_eq_none h1] at h
          simp [bit_eq] at h
      exact waitsT_le (by omega) (hw _ _ h)
    have hw' : ∀ i k, bit (getN (acc ++ [tmL acc o.after.toList]) i) k = true → waitsT .any ops.toArray (i + 1) i k = true := by
      intro i k h
      rw [getN_eq, List.getD_eq_getElem?_getD] at h
      rcases Nat.lt_trichotomy i acc.length with h1 | h1 | h1
      · rw [List.getElem?_append_left h1] at h
        refine hw i k ?_
        rw [getN_eq, List.getD_eq_getElem?_getD]; exact h
      · subst h1
        rw [List.getElem?_append_right (Nat.le_refl _)] at h
        simp only [Nat.sub_self, List.getElem?_cons_zero, Option.getD_some] at h
        rw [hl]
        exact hnew k h
      · rw [List.getElem?_eq_none (by simp; omega)] at h
        simp [bit_eq] at h
    obtain ⟨ih1, ih2⟩ := mkRows_spec l (j + 1) (acc ++ [tmL acc o.after.toList]) (by simp [hl]) hd' hw'
    refine ⟨fun r hr => ?_, fun i o' hi ho => ?_⟩
    · simp only [mkRows, List.mem_cons] at hr
      rcases hr with rfl | hr
      · exact ⟨hoj, Nat.le_refl _, rfl, hnew⟩
      · obtain ⟨h1, h2, h3⟩ := ih1 r hr
        exact ⟨h1, by omega, h3⟩
    · rcases Nat.lt_or_ge j i with h1 | h1
      · obtain ⟨r, hr, h2⟩ := ih2 i o' h1 ho
        exact ⟨r, by simp [mkRows, hr], h2⟩
      · have : i = j := by omega
        subst this
        rw [hoj] at ho
        cases ho
        exact ⟨_, by simp only [mkRows, List.mem_cons]; exact .inl rfl, rfl, rfl⟩

/-! operations that are not ordered are apart -/
noncomputable def laM (ops : Array Oper) (o : Oper) : Nat := maskOf (o.looksAt ops)
def dM (o : Oper) : Nat := match o.dst with
  | some d => Nat.shiftLeft 1 d
  | none => 0
structure NRow where
  j : Nat
  la : Nat
  d : Nat
  tm : Nat
def pairOk (x y : NRow) : Bool := (Nat.beq (Nat.land x.d (Nat.lor y.la y.d)) 0 && Nat.beq (Nat.land y.d x.la) 0) || (bit y.tm x.j || bit x.tm y.j)
noncomputable def pairsOk1 (x : NRow) (l : List NRow) : Bool := List.rec (motive := fun _ => Bool) true (fun y _ ih => Bool.rec (motive := fun _ => Bool) false ih (pairOk x y)) l
noncomputable def pairsOk : List NRow → Bool
  | [] => true
  | x :: l => pairsOk1 x l && pairsOk l
noncomputable def nrows (ops : Array Oper) (rows : List Row) : List NRow := rows.map fun r => ⟨r.j, laM ops r.o, dM r.o, r.tm⟩
theorem pairsOk1_spec {x : NRow} : ∀ {l : List NRow}, pairsOk1 x l = true → ∀ y ∈ l, pairOk x y = true
  | [], _ => by simp
  | z :: l, h => by
    have h' : Bool.rec (motive := fun _ => Bool) false (pairsOk1 x l) (pairOk x z) = true := h
    cases hz : pairOk x z with
    | false => rw [hz] at h'; cases h'
    | true =>
      rw [hz] at h'
      intro y hy
      rcases List.mem_cons.1 hy with rfl | hy
      · exact hz
      · exact pairsOk1_spec h' y hy
theorem pairsOk_spec : ∀ {l : List NRow}, pairsOk l = true → ∀ x ∈ l, ∀ y ∈ l, x = y ∨ pairOk x y = true ∨ pairOk y x = true
  | [], _ => by simp
  | z :: l, h => by
    simp only [pairsOk, Bool.and_eq_true] at h
    have h1 := pairsOk1_spec h.1
    have h2 := pairsOk_spec h.2
    intro x hx y hy
    rcases List.mem_cons.1 hx with e1 | h3
    · rcases List.mem_cons.1 hy with e2 | h4
      · exact .inl (e1.trans e2.symm)
      · rw [e1]; exact .inr (.inl (h1 y h4))
    · rcases List.mem_cons.1 hy with e2 | h4
      · rw [e2]; exact .inr (.inr (h1 x h3))
      · exact h2 x h3 y h4
theorem dM_bit {o : Oper} {d : Nat} (h : o.dst = some d) : bit (dM o) d = true := by
  unfold dM
  rw [h]
  exact (bit_one d d).2 rfl
theorem apart_of {ops : Array Oper} {x y : Oper} (h1 : Nat.beq (Nat.land (dM x) (Nat.lor (laM ops y) (dM y))) 0 = true) (h2 : Nat.beq (Nat.land (dM y) (laM ops x)) 0 = true) : x.apart ops y = true := by
  unfold Oper.apart
  rw [Bool.and_eq_true]
  constructor
  · cases hx : x.dst with
    | none => rfl
    | some d =>
      have hb := dM_bit hx
      simp only [Bool.and_eq_true, Bool.not_eq_true', bne_iff_ne, ne_eq]
      refine ⟨Bool.eq_false_iff.2 fun hc => ?_, fun hy => ?_⟩
      · refine land_zero h1 d hb ?_
        rw [bit_or, Bool.or_eq_true]
        exact .inl ((bit_maskOf _ _).2 (by simpa using hc))
      · refine land_zero h1 d hb ?_
        rw [bit_or, Bool.or_eq_true]
        exact .inr (dM_bit hy)
  · cases hy : y.dst with
    | none => rfl
    | some d =>
      simp only [Bool.not_eq_true']
      exact Bool.eq_false_iff.2 fun hc => land_zero h2 d (dM_bit hy) ((bit_maskOf _ _).2 (by simpa using hc))
theorem apart_symm {ops : Array Oper} {x y : Oper} (h : x.apart ops y = true) : y.apart ops x = true := by
  obtain ⟨h1, h2, h3⟩ := Oper.apart_spec h
  unfold Oper.apart
  rw [Bool.and_eq_true]
  constructor
  · cases hy : y.dst with
    | none => rfl
    | some d =>
      simp only [Bool.and_eq_true, Bool.not_eq_true', bne_iff_ne, ne_eq]
      exact ⟨by simpa using h3 d hy, fun hx => h2 d hx hy⟩
  · cases hx : x.dst with
    | none => rfl
    | some d =>
      simp only [Bool.not_eq_true']
      simpa using h1 d hx
def noSel (l : List Oper) : Bool := match l with
  | [] => true
  | o :: r => (match o.op with | .select .. => false | _ => true) && noSel r
/-- what is looked after once -/
noncomputable def chkR (ops : List Oper) (rows : List Row) : Bool := pairsOk (nrows ops.toArray rows) && noSel ops
theorem noSel_spec : ∀ {l : List Oper}, noSel l = true → ∀ o ∈ l, ∀ cs b, o.op ≠ .select cs b
  | [], _ => by simp
  | o :: r, h => by
    simp only [noSel, Bool.and_eq_true] at h
    intro o' ho' cs b e
    rcases List.mem_cons.1 ho' with rfl | ho'
    · rw [e] at h; exact absurd h.1 (by simp)
    · exact noSel_spec h.2 o' ho' cs b e
end SX
end Go.Proofs.YtnjaaagiindclaaGreatDoor

/-
  SX: operations got faster: what hangs on the program alone is got once. No program in sight.
-/
namespace Go.Proofs.YtnjaaagiindclaaGreatDoor
open Go.RowKit Go.Deep
namespace SX

/-! known numbers -/
def ltI (a b : Int) : Bool := match a with
  | .ofNat m => (match b with | .ofNat n => Nat.blt m n | .negSucc _ => false)
  | .negSucc m => (match b with | .ofNat _ => true | .negSucc n => Nat.blt n m)
theorem ltI_spec (a b : Int) : ltI a b = decide (a < b) := by
  rw [Bool.eq_iff_iff, decide_eq_true_iff]
  cases a with
  | ofNat m => cases b with
    | ofNat n => simp only [ltI, Nat.blt_eq, Int.ofNat_eq_natCast]; omega
    | negSucc n => simp only [ltI, Int.ofNat_eq_natCast]; constructor
                   · intro h; cases h
                   · intro h; omega
  | negSucc m => cases b with
    | ofNat n => simp only [ltI, Int.ofNat_eq_natCast, true_iff]; omega
    | negSucc n => simp only [ltI, Nat.blt_eq]; omega
structure NumF where
  f : IntKind → Int → Int → Option SV
noncomputable def optB (b : Bool) (v : SV) : Option SV := Bool.rec (motive := fun _ => Option SV) none (some v) b
theorem optB_some {b : Bool} {v r : SV} (h : optB b v = some r) : b = true ∧ r = v := by
  cases b with
  | false => have h' : (none : Option SV) = some r := h; cases h'
  | true => have h' : some v = some r := h; simp only [Option.some.injEq] at h'; exact ⟨rfl, h'.symm⟩
noncomputable def litF (k : IntKind) (n : Int) : Option SV := optB (fitsB k n) (.l k n)
noncomputable def divF (k : IntKind) (a b : Int) : Option SV := match a with
  | .ofNat m => (match b with
    | .ofNat n => optB (Nat.blt 0 n && fitsB k (.ofNat (Nat.div m n))) (.l k (.ofNat (Nat.div m n)))
    | _ => none)
  | _ => none
noncomputable def remF (k : IntKind) (a b : Int) : Option SV := match a with
  | .ofNat m => (match b with
    | .ofNat n => optB (Nat.blt 0 n) (.l k (.ofNat (Nat.mod m n)))
    | _ => none)
  | _ => none
/-- what an operation on two known numbers gives, where that is simple -/
noncomputable def numF : BinOp → NumF
  | .add => ⟨fun k a b => litF k (Int.add a b)⟩
  | .sub => ⟨fun k a b => litF k (Int.sub a b)⟩
  | .mul => ⟨fun k a b => litF k (Int.mul a b)⟩
  | .quo => ⟨divF⟩
  | .rem => ⟨remF⟩
  | .eql => ⟨fun _ a b => some (ofB (eqI a b))⟩
  | .neq => ⟨fun _ a b => some (ofB (!eqI a b))⟩
  | .lss => ⟨fun _ a b => some (ofB (ltI a b))⟩
  | .leq => ⟨fun _ a b => some (ofB (!ltI b a))⟩
  | .gtr => ⟨fun _ a b => some (ofB (ltI b a))⟩
  | .geq => ⟨fun _ a b => some (ofB (!ltI a b))⟩
  | _ => ⟨fun _ _ _ => none⟩
theorem numF_eq {op : BinOp} {k : IntKind} {a b : Int} {r : SV} (h : (numF op).f k a b = some r) :
    ∃ q, numOp false op true k a b = some q ∧ q.2.1 = true ∧ q.2.2 = r ∧ op ≠ .shl ∧ op ≠ .shr := by
  have cmp : ∀ (x y : Bool), x = y → ofB x = tstV true y := fun x y e => by rw [e]; rfl
  cases op
  case add =>
    obtain ⟨h1, rfl⟩ := optB_some (show optB (fitsB k (a + b)) (.l k (a + b)) = some r from h)
    exact ⟨_, rfl, h1, rfl, by simp, by simp⟩
  case sub =>
    obtain ⟨h1, rfl⟩ := optB_some (show optB (fitsB k (a - b)) (.l k (a - b)) = some r from h)
    exact ⟨_, rfl, h1, rfl, by simp, by simp⟩
  case mul =>
    obtain ⟨h1, rfl⟩ := optB_some (show optB (fitsB k (a * b)) (.l k (a * b)) = some r from h)
    exact ⟨_, rfl, h1, rfl, by simp, by simp⟩
  case quo =>
    have h' : divF k a b = some r := h
    unfold divF at h'
    split at h'
    next m =>
      split at h'
      next n =>
        obtain ⟨h1, rfl⟩ := optB_some h'
        simp only [Bool.and_eq_true] at h1
        have hn := blt_lt h1.1
        obtain ⟨n, rfl⟩ : ∃ n', n = n' + 1 := ⟨n - 1, by omega⟩
        refine ⟨_, rfl, ?_, ?_, by simp, by simp⟩
        · cases hu : isUns k
          · simp only [Bool.false_eq_true, if_false]
            rw [Bool.and_eq_true]; exact ⟨rfl, h1.2⟩
          · simp only [if_true]
            rw [Bool.and_eq_true]; exact ⟨rfl, h1.2⟩
        · cases hu : isUns k
          · simp only [Bool.false_eq_true, if_false]; rfl
          · simp only [if_true]; rfl
      · cases h'
    · cases h'
  case rem =>
    have h' : remF k a b = some r := h
    unfold remF at h'
    split at h'
    next m =>
      split at h'
      next n =>
        obtain ⟨h1, rfl⟩ := optB_some h'
        have hn := blt_lt h1
        obtain ⟨n, rfl⟩ : ∃ n', n = n' + 1 := ⟨n - 1, by omega⟩
        refine ⟨_, rfl, ?_, ?_, by simp, by simp⟩
        · cases hu : isUns k
          · simp only [Bool.false_eq_true, if_false]; rfl
          · simp only [if_true]; rfl
        · cases hu : isUns k
          · simp only [Bool.false_eq_true, if_false]; rfl
          · simp only [if_true]; rfl
      · cases h'
    · cases h'
  case eql =>
    have h' : some (ofB (eqI a b)) = some r := h
    simp only [Option.some.injEq] at h'
    exact ⟨_, rfl, rfl, by rw [← h']; refine (cmp _ _ ?_).symm; rw [eqI_spec, Bool.eq_iff_iff]; simp, by simp, by simp⟩
  case neq =>
    have h' : some (ofB (!eqI a b)) = some r := h
    simp only [Option.some.injEq] at h'
    exact ⟨_, rfl, rfl, by rw [← h']; refine (cmp _ _ ?_).symm; rw [eqI_spec, Bool.eq_iff_iff]; simp, by simp, by simp⟩
  case lss =>
    have h' : some (ofB (ltI a b)) = some r := h
    simp only [Option.some.injEq] at h'
    exact ⟨_, rfl, rfl, by rw [← h']; exact (cmp _ _ (ltI_spec a b)).symm, by simp, by simp⟩
  case leq =>
    have h' : some (ofB (!ltI b a)) = some r := h
    simp only [Option.some.injEq] at h'
    refine ⟨_, rfl, rfl, ?_, by simp, by simp⟩
    rw [← h']; refine (cmp _ _ ?_).symm
    rw [ltI_spec, Bool.eq_iff_iff]
    simp
  case gtr =>
    have h' : some (ofB (ltI b a)) = some r := h
    simp only [Option.some.injEq] at h'
    exact ⟨_, rfl, rfl, by rw [← h']; exact (cmp _ _ (ltI_spec b a)).symm, by simp, by simp⟩
  case geq =>
    have h' : some (ofB (!ltI a b)) = some r := h
    simp only [Option.some.injEq] at h'
    refine ⟨_, rfl, rfl, ?_, by simp, by simp⟩
    rw [← h']; refine (cmp _ _ ?_).symm
    rw [ltI_spec, Bool.eq_iff_iff]
    simp
  all_goals (have h' : (none : Option SV) = some r := h; cases h')
/-- two known numbers -/
def litsQ (x y : SV) : Option (IntKind × Int × Int) := match x with
  | .l k a => (match y with
    | .l k' b => if isK k k' then some (k, a, b) else none
    | _ => none)
  | _ => none
theorem litsQ_some {x y : SV} {z : IntKind × Int × Int} (h : litsQ x y = some z) : x = .l z.1 z.2.1 ∧ y = .l z.1 z.2.2 := by
  unfold litsQ at h
  split at h
  · split at h
    · split at h
      next e =>
        have := isK_eq e
        simp only [Option.some.injEq] at h
        subst h this
        exact ⟨rfl, rfl⟩
      · cases h
    · cases h
  · cases h
theorem isK_self (k : IntKind) : isK k k = true := by cases k <;> rfl

/-! operations -/
structure SrcF where
  f : Slots → SV
noncomputable def srcF : Operand → SrcF
  | .tmp t => ⟨(acc t).g⟩
  | .const c => ⟨fun _ => ofVal c⟩
  | .func f => if Nat.blt f 1048576 then ⟨fun _ => .fn f []⟩ else ⟨fun _ => .junk⟩
  | .global _ => ⟨fun _ => .junk⟩
theorem srcF_eq (tm : Slots) (x : Operand) : (srcF x).f tm = opnd tm x := by
  cases x with
  | tmp t => rfl
  | const c => rfl
  | func f =>
    simp only [srcF, opnd]
    split <;> rfl
  | global g => rfl
structure DstF where
  f : St → SV → St
noncomputable def dstF : Option Nat → DstF
  | none => ⟨fun st _ => st⟩
  | some d => ⟨fun st v => St.rec (motive := fun _ => St) (fun tm hp nx df => ⟨sset tm d v, hp, nx, df⟩) st⟩
theorem dstF_eq (d : Option Nat) (st : St) (v : SV) : (dstF d).f st v = { st with tm := put st.tm d v } := by
  cases d <;> rfl
noncomputable def binF (nf : NumF) (slow : Env → St → (St → Tree) → Tree) (dst : DstF) (E : Env) (st : St) (x y : SV) (k : St → Tree) : Tree := match litsQ x y with
  | some z => (match nf.f z.1 z.2.1 z.2.2 with
    | some r => if E.wr then slow E st k else k (dst.f st r)
    | none => slow E st k)
  | none => slow E st k
structure OpF where
  f : Env → St → (St → Tree) → (SV → St → Tree) → Tree
noncomputable def opBinS (o : Oper) (op : BinOp) (t : TypeId) (x y : Operand) (E : Env) (st : St) (k : St → Tree) : Tree := match two (opnd st.tm x) (opnd st.tm y) with
    | some z => opPtrEq E.ty st o.dst op t z.1 z.2.1 z.2.2.1 z.2.2.2 k
    | none => opBin E.ty E.wr st o.dst op t (isC y) (opnd st.tm x) (opnd st.tm y) k
theorem binF_eq (o : Oper) (op : BinOp) (t : TypeId) (x y : Operand) (E : Env) (st : St) (k : St → Tree) :
    binF (numF op) (opBinS o op t x y) (dstF o.dst) E st (opnd st.tm x) (opnd st.tm y) k = opBinS o op t x y E st k := by
  unfold binF
  split
  next z hz =>
    obtain ⟨hx, hy⟩ := litsQ_some hz
    split
    next r hr =>
      split
      · rfl
      next hw =>
        have hw : E.wr = false := by simpa using hw
        obtain ⟨q, h1, h2, h3, h4, h5⟩ := numF_eq hr
        unfold opBinS
        rw [hx, hy]
        simp only [two]
        unfold opBin
        simp only [numOf]
        have e0 : lits (.l z.1 z.2.1) (.l z.1 z.2.2) = true := rfl
        have e1 : (dstF o.dst).f st r = { st with tm := put st.tm o.dst r } := dstF_eq _ _ _
        rw [e1]
        have e2 : (if isK z.1 z.1 then (match numOp E.wr op (lits (.l z.1 z.2.1) (.l z.1 z.2.2)) z.1 z.2.1 z.2.2 with
          | some q => needL (lits (.l z.1 z.2.1) (.l z.1 z.2.2)) q.1 q.2.1 (ret st o.dst q.2.2 k) 171
          | none => .fail 70) else .fail 71) = k { st with tm := put st.tm o.dst r } := by
          rw [isK_self, if_pos rfl, hw, e0, h1]
          simp only [needL, if_true, h2, h3]
          rfl
        cases op <;> first | exact absurd rfl h4 | exact absurd rfl h5 | exact e2.symm
    · rfl
  · rfl
noncomputable def getsF (ops : List Operand) (tm : Slots) : List SV := List.rec (motive := fun _ => List SV) [] (fun x _ ih => (srcF x).f tm :: ih) ops
theorem getsF_eq (tm : Slots) : ∀ l : List Operand, getsF l tm = l.map (opnd tm)
  | [] => rfl
  | x :: l => by
    show (srcF x).f tm :: getsF l tm = _
    rw [getsF_eq tm l, srcF_eq]; rfl
/-- a call: which one, if that is known at once -/
noncomputable def callF (sp : Option Spec) (f : FuncId) (dst : DstF) (st : St) (args : List SV) (k : St → Tree) (kp : SV → St → Tree) : Tree := match sp with
  | some sp => sp args st.hp st.nx (fun b v h n => if b then k (dst.f ⟨st.tm, h, n, st.df⟩ v) else kp v ⟨st.tm, h, n, st.df⟩)
  | none => .fail (1000 + f)
noncomputable def opFc (c : Call) (o : Oper) : OpF := match c.callee with
  | .value f => (match f with
    | .func g => if Nat.blt g 1048576 then ⟨fun E st k kp => callF (E.spec g) g (dstF o.dst) st (getsF c.args.toList st.tm) k kp⟩ else ⟨fun _ _ _ _ => .fail 212⟩
    | x => ⟨fun E st k kp => opCall E.spec st o.dst ((srcF x).f st.tm) (getsF c.args.toList st.tm) k kp⟩)
  | _ => ⟨fun E st k kp => opC E o c st k kp⟩
theorem opFc_eq (c : Call) (o : Oper) (E : Env) (st : St) (k : St → Tree) (kp : SV → St → Tree) : (opFc c o).f E st k kp = opC E o c st k kp := by
  unfold opFc opC
  cases c.callee with
  | value f =>
    cases f with
    | func g =>
      simp only [opnd]
      split
      next hb =>
        simp only [opCall, callF, getsF_eq, List.append_nil]
        rw [if_pos hb]
        cases E.spec g with
        | none => rfl
        | some sp => simp only [dstF_eq]
      · rfl
    | tmp t => simp only [srcF_eq, getsF_eq]
    | const c => simp only [srcF_eq, getsF_eq]
    | global g => simp only [srcF_eq, getsF_eq]
  | invoke r m => rfl
  | builtin b => rfl
noncomputable def opFs (op : Op) (o : Oper) : OpF := match op with
  | .move x => ⟨fun _ st k _ => k ((dstF o.dst).f st ((srcF x).f st.tm))⟩
  | .assign x => ⟨fun _ st k _ => k ((dstF o.dst).f st ((srcF x).f st.tm))⟩
  | .pick c x y => ⟨fun _ st k _ => opPick st o.dst ((srcF c).f st.tm) ((srcF x).f st.tm) ((srcF y).f st.tm) k⟩
  | .alloc t => ⟨fun E st k _ => opAlloc E.ty st o.dst t k⟩
  | .box t x => ⟨fun _ st k _ => opBox st o.dst t ((srcF x).f st.tm) k⟩
  | .load t x => ⟨fun E st k _ => opLoad E.ty st o.dst t ((srcF x).f st.tm) k⟩
  | .store t x v => ⟨fun E st k _ => opStore E.ty st o.dst t ((srcF x).f st.tm) ((srcF v).f st.tm) k⟩
  | .nilCheck x => ⟨fun _ st k _ => opNilCheck st o.dst ((srcF x).f st.tm) k⟩
  | .binOp b t x y _ => ⟨fun E st k _ => binF (numF b) (opBinS o b t x y) (dstF o.dst) E st ((srcF x).f st.tm) ((srcF y).f st.tm) k⟩
  | .unOp b _ x => ⟨fun _ st k _ => opUn st o.dst b ((srcF x).f st.tm) k⟩
  | .convert s t x => ⟨fun E st k _ => opConv E.ty E.wr st o.dst s t ((srcF x).f st.tm) k⟩
  | .fieldAddr t x f => ⟨fun E st k _ => opField E.ty st o.dst t ((srcF x).f st.tm) f k⟩
  | .field t x f => ⟨fun E st k _ => opPart E.ty st o.dst t ((srcF x).f st.tm) f k⟩
  | .indexAddr t x i => ⟨fun E st k _ => opIndex E.ty st o.dst t ((srcF x).f st.tm) ((srcF i).f st.tm) k⟩
  | .index t x i => ⟨fun E st k _ => opStrIx E.ty st o.dst t ((srcF x).f st.tm) ((srcF i).f st.tm) k⟩
  | .extract x i => ⟨fun _ st k _ => opExtract st o.dst ((srcF x).f st.tm) i k⟩
  | .call c => opFc c o
  | _ => ⟨fun E st k kp => opT E o st k kp⟩
noncomputable def opF (o : Oper) : OpF := opFs o.op o
theorem opF_eq (o : Oper) (E : Env) (st : St) (k : St → Tree) (kp : SV → St → Tree) : (opF o).f E st k kp = opT E o st k kp := by
  unfold opF
  cases h : o.op with
  | move x => simp only [opFs, opT, h, srcF_eq, dstF_eq, ret]
  | assign x => simp only [opFs, opT, h, srcF_eq, dstF_eq, ret]
  | pick c x y => simp only [opFs, opT, h, srcF_eq]
  | alloc t => simp only [opFs, opT, h]
  | box t x => simp only [opFs, opT, h, srcF_eq]
  | load t x => simp only [opFs, opT, h, srcF_eq]
  | store t x v => simp only [opFs, opT, h, srcF_eq]
  | nilCheck x => simp only [opFs, opT, h, srcF_eq]
  | binOp b t x y t' =>
    simp only [opFs, srcF_eq, binF_eq]
    simp only [opT, h, opBinS]
    all_goals (cases two (opnd st.tm x) (opnd st.tm y) <;> rfl)
  | unOp b t x => simp only [opFs, opT, h, srcF_eq]
  | convert s t x => simp only [opFs, opT, h, srcF_eq]
  | fieldAddr t x f => simp only [opFs, opT, h, srcF_eq]
  | field t x f => simp only [opFs, opT, h, srcF_eq]
  | indexAddr t x i => simp only [opFs, opT, h, srcF_eq]
  | index t x i => simp only [opFs, opT, h, srcF_eq]
  | extract x i => simp only [opFs, opT, h, srcF_eq]
  | call c => simp only [opFs, opT, h, opFc_eq]
  | _ => rfl

/-! operations that leave memory as it is -/
structure KF where
  f : St → Nat
noncomputable def kindF (op : Op) : KF := match op with
  | .move _ => ⟨fun _ => 1⟩
  | .assign _ => ⟨fun _ => 1⟩
  | .pick .. => ⟨fun _ => 1⟩
  | .fieldAddr .. => ⟨fun _ => 1⟩
  | .indexAddr .. => ⟨fun _ => 1⟩
  | .nilCheck _ => ⟨fun _ => 1⟩
  | .binOp _ _ x y _ => ⟨fun st => match two ((srcF x).f st.tm) ((srcF y).f st.tm) with | some _ => 0 | none => 1⟩
  | .unOp .. => ⟨fun _ => 1⟩
  | .convert .. => ⟨fun _ => 1⟩
  | .extract .. => ⟨fun _ => 1⟩
  | .build .. => ⟨fun _ => 1⟩
  | .field .. => ⟨fun _ => 1⟩
  | .index .. => ⟨fun _ => 1⟩
  | .makeInterface .. => ⟨fun _ => 1⟩
  | .typeAssert .. => ⟨fun _ => 1⟩
  | .slice _ _ _ _ mx => (match mx with | none => ⟨fun _ => 1⟩ | some _ => ⟨fun _ => 0⟩)
  | .makeFunc f first _ => (match f with
    | .func _ => (match first.toList with | [] => ⟨fun _ => 1⟩ | _ => ⟨fun _ => 0⟩)
    | _ => ⟨fun _ => 0⟩)
  | .load .. => ⟨fun _ => 2⟩
  | .call c => ⟨fun st => kindC c st⟩
  | _ => ⟨fun _ => 0⟩
theorem kindF_eq (o : Oper) (st : St) : (kindF o.op).f st = kindQ o st := by
  unfold kindQ
  cases h : o.op with
  | binOp b t x y t' =>
    simp only [kindF, srcF_eq]
    all_goals (cases two (opnd st.tm x) (opnd st.tm y) <;> rfl)
  | slice t x lo hi mx => cases mx <;> rfl
  | makeFunc f first xs =>
    cases f with
    | func f => simp only [kindF]; cases first.toList <;> rfl
    | _ => rfl
  | _ => rfl
structure VF where
  f : Env → St → (St → Tree) → Tree
noncomputable def opBinV (o : Oper) (op : BinOp) (t : TypeId) (x y : Operand) (E : Env) (st : St) (k : St → Tree) : Tree := opBin E.ty E.wr st o.dst op t (isC y) (opnd st.tm x) (opnd st.tm y) k
theorem binFV_eq (o : Oper) (op : BinOp) (t : TypeId) (x y : Operand) (E : Env) (st : St) (k : St → Tree) :
    binF (numF op) (opBinV o op t x y) (dstF o.dst) E st (opnd st.tm x) (opnd st.tm y) k = opBinV o op t x y E st k := by
  have h := binF_eq o op t x y E st k
  unfold binF at h ⊢
  cases hl : litsQ (opnd st.tm x) (opnd st.tm y) with
  | none => rfl
  | some z =>
    rw [hl] at h
    obtain ⟨hx, hy⟩ := litsQ_some hl
    have e : opBinS o op t x y E st k = opBinV o op t x y E st k := by
      unfold opBinS opBinV
      rw [hx, hy]
      rfl
    simp only at h ⊢
    cases hn : (numF op).f z.1 z.2.1 z.2.2 with
    | none => rfl
    | some r =>
      rw [hn] at h
      simp only at h ⊢
      split at h
      next hw => rw [if_pos hw]
      next hw => rw [if_neg hw, h, e]
noncomputable def opVF (op : Op) (o : Oper) : VF := match op with
  | .move x => ⟨fun _ st k => k ((dstF o.dst).f st ((srcF x).f st.tm))⟩
  | .assign x => ⟨fun _ st k => k ((dstF o.dst).f st ((srcF x).f st.tm))⟩
  | .pick c x y => ⟨fun _ st k => opPick st o.dst ((srcF c).f st.tm) ((srcF x).f st.tm) ((srcF y).f st.tm) k⟩
  | .nilCheck x => ⟨fun _ st k => opNilCheck st o.dst ((srcF x).f st.tm) k⟩
  | .binOp b t x y _ => ⟨fun E st k => binF (numF b) (opBinV o b t x y) (dstF o.dst) E st ((srcF x).f st.tm) ((srcF y).f st.tm) k⟩
  | .unOp b _ x => ⟨fun _ st k => opUn st o.dst b ((srcF x).f st.tm) k⟩
  | .convert s t x => ⟨fun E st k => opConv E.ty E.wr st o.dst s t ((srcF x).f st.tm) k⟩
  | .fieldAddr t x f => ⟨fun E st k => opField E.ty st o.dst t ((srcF x).f st.tm) f k⟩
  | .field t x f => ⟨fun E st k => opPart E.ty st o.dst t ((srcF x).f st.tm) f k⟩
  | .indexAddr t x i => ⟨fun E st k => opIndex E.ty st o.dst t ((srcF x).f st.tm) ((srcF i).f st.tm) k⟩
  | .index t x i => ⟨fun E st k => opStrIx E.ty st o.dst t ((srcF x).f st.tm) ((srcF i).f st.tm) k⟩
  | .extract x i => ⟨fun _ st k => opExtract st o.dst ((srcF x).f st.tm) i k⟩
  | _ => ⟨fun E st k => opV E o st k⟩
theorem opVF_eq (o : Oper) (E : Env) (st : St) (k : St → Tree) : (opVF o.op o).f E st k = opV E o st k := by
  cases h : o.op with
  | move x => simp only [opVF, opV, h, srcF_eq, dstF_eq, ret]
  | assign x => simp only [opVF, opV, h, srcF_eq, dstF_eq, ret]
  | pick c x y => simp only [opVF, opV, h, srcF_eq]
  | nilCheck x => simp only [opVF, opV, h, srcF_eq]
  | binOp b t x y t' =>
    simp only [opVF, srcF_eq, binFV_eq]
    simp only [opV, h, opBinV]
  | unOp b t x => simp only [opVF, opV, h, srcF_eq]
  | convert s t x => simp only [opVF, opV, h, srcF_eq]
  | fieldAddr t x f => simp only [opVF, opV, h, srcF_eq]
  | field t x f => simp only [opVF, opV, h, srcF_eq]
  | indexAddr t x i => simp only [opVF, opV, h, srcF_eq]
  | index t x i => simp only [opVF, opV, h, srcF_eq]
  | extract x i => simp only [opVF, opV, h, srcF_eq]
  | _ => rfl
/-- where a load's address is, and where its value goes -/
structure LF where
  f : Option (TypeId × SrcF)
noncomputable def loadF (op : Op) : LF := match op with
  | .load t x => ⟨some (t, srcF x)⟩
  | _ => ⟨none⟩
noncomputable def exGF (ops : List Oper) (g : Option (Nat × Bool)) : (St → (St → Tree) → (St → Tree) → Tree) := match g with
  | none => fun st yes _ => yes st
  | some (j, want) => (match gslot ops j with
    | none => fun _ _ _ => .fail 272
    | some s => fun st yes no => (match (acc s).g st.tm with
      | .tt => if want then yes st else no st
      | .ff => if want then no st else yes st
      | .none_ => no st
      | .b c => .split c (if want then yes { st with tm := sset st.tm s .tt } else no { st with tm := sset st.tm s .tt }) (if want then no { st with tm := sset st.tm s .ff } else yes { st with tm := sset st.tm s .ff })
      | _ => .fail 273))
structure GF where
  f : St → (St → Tree) → (St → Tree) → Tree
noncomputable def guardF (ops : List Oper) (o : Oper) : GF := ⟨exGF ops o.guard⟩
theorem guardF_eq (ops : List Oper) (o : Oper) (st : St) (yes no : St → Tree) : (guardF ops o).f st yes no = exG ops o st yes no := by
  unfold guardF exGF exG
  cases o.guard with
  | none => rfl
  | some g =>
    obtain ⟨j, want⟩ := g
    simp only
    cases gslot ops j with
    | none => rfl
    | some s => rfl
end SX
end Go.Proofs.YtnjaaagiindclaaGreatDoor
