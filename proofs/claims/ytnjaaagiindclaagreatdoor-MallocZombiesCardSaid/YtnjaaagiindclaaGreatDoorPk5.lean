/-
  Part 5 of what the statement leans on: Sx8, Sx9, Sx10, Sx11.
-/
import Derived.Test.YtnjaaagiindclaaGreatDoorPk4
import Derived.IntWalk
import Derived.Laws.Small
import Derived.Laws.Strings
import Derived.Laws.Tables
import Derived.Great.FillDense
/-
  SX: new memory, places in memory. No program in sight.
-/
namespace Go.Proofs.YtnjaaagiindclaaGreatDoor
open Go.RowKit Go.Deep
namespace SX

section
variable {P : Program} {C : Ctx} {ρ0 : Ren} {Q : Ex → St → Prop} {o : Oper} {st : St} {E : Env}

/-- a new block of cells, its place handed on -/
noncomputable def newT (st : St) (d : Option Nat) (t : TypeId) (cs : List SV) (k : St → Tree) : Tree :=
  k (St.rec (motive := fun _ => St) (fun tm hp nx df => ⟨put tm d (.p nx (.c 0)), (nx, .cells t cs) :: hp, nx + 1, df⟩) st)

theorem HS.new {ρ : Ren} {a : Act} {w : World} (H : HS C ρ0 ρ st a w) {t : TypeId} {cs : List SV} {c : Array Value} (hc : RelL ρ cs c.toList) :
    HS C ρ0 (upd ρ st.nx w.heap.size) { st with hp := (st.nx, .cells t cs) :: st.hp, nx := st.nx + 1 } a (w.alloc (.cells c t)) :=
  H.fresh ⟨w.heap.size, c, upd_at _ _ _, rfl, RelL.mono (upd_le H.free) _ _ hc⟩ fun _ hp => hp.new _

theorem newT_snd {ρ : Ren} {a : Act} {w : World} {d : Option Nat} {t : TypeId} {cs : List SV} {k : St → Tree} (hk : (newT st d t cs k).den Q) (H : HS C ρ0 ρ st a w) {c : Array Value} (hc : RelL ρ cs c.toList) :
    ∃ st' ρ', (k st').den Q ∧ Ag d.toList st.tm st'.tm ∧ HS C ρ0 ρ' st' (a.put d (.pointer (some ⟨w.heap.size, 0, none⟩))) (w.alloc (.cells c t)) := by
  have H' := H.new (t := t) hc
  exact ⟨_, _, hk, put_ag _ _ _, H'.put d (by simp only [SV.Rel]; exact ⟨_, upd_at _ _ _, rfl⟩)⟩

noncomputable def opAlloc (ty : TypeId → Option TI) (st : St) (d : Option Nat) (t : TypeId) (k : St → Tree) : Tree := match ty t with
  | some i => newT st d t i.zero k
  | none => .fail 51
theorem owes_alloc (hty : ∀ t i, E.ty t = some i → tiOf P t = some i) (t : TypeId) (h : o.op = .alloc t) : Owes P C ρ0 Q o st (calm (opAlloc E.ty st o.dst t)) := by
  intro k kp hk ρ a w H next Qx hn _
  unfold calm opAlloc at hk
  split at hk
  next i hi =>
    obtain ⟨⟨f, z, hf, hsz, hz, _, hzr⟩, _⟩ := tiOf_is (hty _ _ hi)
    obtain ⟨st', ρ', hk, hag, H'⟩ := newT_snd hk H (hzr ρ)
    refine wp_value ?_ (hn _ _ _ _ hag H' hk)
    simp [execOp, h, Instr.alloc, zeroValue, typeInfo, hf, hz, newVar, newRow, newObj]
    rfl
  · exact hk.elim

noncomputable def opBox (st : St) (d : Option Nat) (t : TypeId) (x : SV) (k : St → Tree) : Tree := if oneL (flatV x) then newT st d t (flatV x) k else .fail 52
theorem owes_box (t : TypeId) (x : Operand) (h : o.op = .box t x) : Owes P C ρ0 Q o st (calm (opBox st o.dst t (opnd st.tm x))) := by
  intro k kp hk ρ a w H next Qx hn _
  unfold calm opBox at hk
  split at hk
  next h1 =>
    obtain ⟨hr, _⟩ := flatV_cells (opnd_rel H.tm x) h1
    obtain ⟨st', ρ', hk, hag, H'⟩ := newT_snd hk H hr
    refine wp_value ?_ (hn _ _ _ _ hag H' hk)
    simp [execOp, h, Instr.box, newVar, newRow, newObj]
    rfl
  · exact hk.elim

/-! places in rows and arrays -/
/-- a known number below another one -/
def natB (n : Int) (len : Nat) : Option Nat := match n with
  | .ofNat m => if Nat.blt m len then some m else none
  | .negSucc _ => none
theorem natB_some {n : Int} {len m : Nat} (h : natB n len = some m) : n = (m : Int) ∧ m < len := by
  unfold natB at h
  split at h
  · split at h
    next hb => simp only [Option.some.injEq] at h; subst h; exact ⟨rfl, blt_lt hb⟩
    · cases h
  · cases h
def litOf : SV → Option Int
  | .l _ n => some n
  | _ => none
theorem litOf_some {x : SV} {n : Int} (h : litOf x = some n) : ∃ k, x = .l k n := by
  cases x <;> simp only [litOf, reduceCtorEq, Option.some.injEq] at h
  subst h; exact ⟨_, rfl⟩
noncomputable def opIndex (ty : TypeId → Option TI) (st : St) (d : Option Nat) (t : TypeId) (x i : SV) (k : St → Tree) : Tree := match ty t with
  | some ti => (match numOf i with
    | some (_, n) => (match x with
      | .sl lit b sz frm len _ => (match ti.k with
        | .sli _ s => if Nat.beq s sz && !Nat.beq s 0 then (match lit, litOf i with
            | true, some n' => (match natB n' len with
              | some m => ret st d (.p b (.c ((frm + m) * sz))) k
              | none => .fail 153)
            | _, _ => .need (0 ≤ n ∧ n < (len : Int)) (ret st d (.p b (.r sz (frm + n.toNat) 0)) k)) else .fail 53
        | _ => .fail 54)
      | .p b q => (match ti.k with
        | .ar len s _ => (match q with
          | .c o => if Nat.beq s 0 then .fail 55 else (match litOf i with
            | some n' => (match natB n' len with
              | some m => ret st d (.p b (.c (o + m * s))) k
              | none => .fail 155)
            | none => if Nat.beq o 0 then .need (0 ≤ n ∧ n < (len : Int)) (ret st d (.p b (.r s n.toNat 0)) k) else .fail 56)
          | _ => .fail 57)
        | _ => .fail 57)
      | _ => .fail 58)
    | none => .fail 59)
  | none => .fail 60

theorem owes_index (hty : ∀ t i, E.ty t = some i → tiOf P t = some i) (t : TypeId) (x i : Operand) (h : o.op = .indexAddr t x i) : OwesV P Q o st (opIndex E.ty st o.dst t (opnd st.tm x) (opnd st.tm i)) := by
  intro k hk ρ a H
  have hx := opnd_rel H x
  have hi := opnd_rel H i
  unfold opIndex at hk
  split at hk
  next ti hti =>
    have htt := hty _ _ hti
    split at hk
    next ik n hin =>
      have hiv := numOf_rel hin hi
      have litn : ∀ n', litOf (opnd st.tm i) = some n' → n' = n := fun n' e => by
        obtain ⟨k', e'⟩ := litOf_some e
        rw [e'] at hin
        simp only [numOf, Option.some.injEq, Prod.mk.injEq] at hin
        exact hin.2
      split at hk
      next lit b sz frm len cap hxe =>
        rw [hxe] at hx
        simp only [SV.Rel] at hx
        obtain ⟨ad, cz, hxv, hci, hle, hadB⟩ := hx
        have had := slB (f := fun g => ⟨g, frm * sz, none⟩) hci hadB
        split at hk
        next e s hs =>
          split at hk
          next hc =>
            simp only [Bool.and_eq_true, Bool.not_eq_true'] at hc
            have e1 := Nat.eq_of_beq_eq_true hc.1
            subst e1
            obtain ⟨hu, hsz⟩ := tiOf_sli htt hs
            have h0 : s ≠ 0 := fun e => by subst e; simp at hc
            have hsr := fun w => (szOf_run hsz h0 w).1
            have run : ∀ (h1 : 0 ≤ n) (h2 : n < (len : Int)), ∃ g, ρ b = some g ∧ ∀ w, (execOp a.eval o).run P w = .ok (.value (.pointer (some ⟨g, frm * s + n.toNat * s, none⟩))) w := fun h1 h2 => by
              have hpos : 0 < cz := by omega
              obtain ⟨g, hg, had⟩ := had hpos
              refine ⟨g, hg, fun w => ?_⟩
              simp only [execOp, h, Instr.indexAt, hiv, hxv, had, asIntOf, Sem.run_bind, Sem.run_pure, Result.andThen, run_underlying hu, h1, h2, and_self, if_true, hsr, add_plain']
            split at hk
            next n' hl =>
              have := litn _ hl
              subst this
              split at hk
              next m hm =>
                obtain ⟨rfl, hlt⟩ := natB_some hm
                obtain ⟨g, hg, hr⟩ := run (by omega) (by omega)
                exact ⟨_, _, hk, (by simp only [SV.Rel, Off.n]; exact ⟨g, hg, rfl⟩), fun w => by rw [hr w]; simp only [Int.toNat_natCast, Nat.add_mul]⟩
              · exact hk.elim
            next =>
              obtain ⟨⟨h1, h2⟩, hk⟩ := hk
              have hk := hk ⟨h1, h2⟩
              obtain ⟨g, hg, hr⟩ := run h1 h2
              exact ⟨_, _, hk, (by simp only [SV.Rel, Off.n, Nat.add_mul, Nat.add_zero]; exact ⟨g, hg, rfl⟩), hr⟩
          · exact hk.elim
        · exact hk.elim
      next b q hxe =>
        rw [hxe] at hx
        simp only [SV.Rel] at hx
        obtain ⟨g, hg, hx⟩ := hx
        split at hk
        next len s el hs =>
         split at hk
         next o' =>
          split at hk
          · exact hk.elim
          next h0 =>
            obtain ⟨hu, hsz⟩ := tiOf_ar htt hs
            have h0' : s ≠ 0 := fun e => h0 (by rw [e]; rfl)
            have hsr := fun w => (szOf_run hsz h0' w).1
            have run : 0 ≤ n → n < (len : Int) → ∀ w, (execOp a.eval o).run P w = .ok (.value (.pointer (some ⟨g, o' + n.toNat * s, none⟩))) w := fun h1 h2 w => by
              simp only [execOp, h, Instr.indexAt, hiv, hx, asIntOf, Sem.run_bind, Sem.run_pure, Result.andThen, run_underlying hu, Instr.sureAddr, h1, h2, and_self, if_true, hsr, add_plain', Off.n]
            split at hk
            next n' hl =>
              have := litn _ hl
              subst this
              split at hk
              next m hm =>
                obtain ⟨rfl, hlt⟩ := natB_some hm
                exact ⟨_, _, hk, (by simp only [SV.Rel, Off.n]; exact ⟨g, hg, rfl⟩), fun w => by rw [run (by omega) (by omega) w]; simp only [Int.toNat_natCast]⟩
              · exact hk.elim
            next =>
              split at hk
              next ho =>
                have := Nat.eq_of_beq_eq_true ho
                subst this
                obtain ⟨⟨h1, h2⟩, hk⟩ := hk
                exact ⟨_, _, (hk ⟨h1, h2⟩), (by simp only [SV.Rel, Off.n, Nat.add_zero]; exact ⟨g, hg, rfl⟩), fun w => by rw [run h1 h2 w]; simp only [Nat.zero_add]⟩
              · exact hk.elim
         · exact hk.elim
        · exact hk.elim
      · exact hk.elim
    · exact hk.elim
  · exact hk.elim

/-! slices of slices -/
def bnd (dflt : Int) : Option SV → Option Int
  | none => some dflt
  | some x => (numOf x).map (·.2)
def bndL : Option SV → Bool
  | none => true
  | some x => (litOf x).isSome
theorem run_sliceAt_g {w : World} {t e : TypeId} {s : Nat} (hu : P.underlying t = some (.slice e)) (hs : (sizeOf e).run P w = .ok s w) (ad : Option Addr) (len cap : Nat) (lo hi : Option Value) (l h : Int)
    (hlo : lo = none ∧ l = 0 ∨ ∃ k, lo = some (.int k l)) (hhi : hi = none ∧ h = (len : Int) ∨ ∃ k, hi = some (.int k h)) (h0 : 0 ≤ l) (h1 : l ≤ h) (h2 : h ≤ (cap : Int)) :
    (Instr.sliceAt t (.slice ad len cap) lo hi none).run P w = .ok (.slice (if cap = l.toNat then ad else ad.map (·.add (l.toNat * s))) (h.toNat - l.toNat) (cap - l.toNat)) w := by
  have e1 : 0 ≤ h := by omega
  have e2 : l ≤ ((h.toNat : Nat) : Int) := by omega
  have e3 : ((h.toNat : Nat) : Int) = h := by omega
  have e4 : max h 0 = h := by omega
  rcases hlo with ⟨rfl, rfl⟩ | ⟨k, rfl⟩ <;> rcases hhi with ⟨rfl, rfl⟩ | ⟨k', rfl⟩ <;>
    simp [Instr.sliceAt, Instr.slice, Instr.sliceBounds, Instr.sliceBound, asIntOf, run_underlying hu, hs, h0, h1, h2, e1, e4, Result.andThen]
/-- known bounds that fit -/
def bndB (l h : Int) (len : Nat) : Bool := match l, h with
  | .ofNat a, .ofNat b => Nat.ble a b && Nat.ble b len
  | _, _ => false
theorem bndB_spec {l h : Int} {len : Nat} (e : bndB l h len = true) : 0 ≤ l ∧ l ≤ h ∧ h ≤ (len : Int) := by
  unfold bndB at e
  split at e
  next a b =>
    simp only [Bool.and_eq_true] at e
    have h1 := Nat.le_of_ble_eq_true e.1
    have h2 := Nat.le_of_ble_eq_true e.2
    simp only [Int.ofNat_eq_natCast]
    omega
  · cases e
noncomputable def opSlice (ty : TypeId → Option TI) (st : St) (d : Option Nat) (t : TypeId) (x : SV) (lo hi : Option SV) (k : St → Tree) : Tree := match ty t with
  | some ti => (match ti.k with
    | .sli _ s => (match x with
      | .sl lit b sz frm len cap => if Nat.beq s sz && !Nat.beq s 0 then (match bnd 0 lo, bnd (len : Nat) hi with
        | some l, some h => if lit && bndL lo && bndL hi then (if bndB l h len then ret st d (.sl true b sz (frm + l.toNat) (h.toNat - l.toNat) (cap.sub l.toNat)) k else .need (0 ≤ l ∧ l ≤ h ∧ (h ≤ (len : Int) ∨ cap.leP h)) (ret st d (.sl true b sz (frm + l.toNat) (h.toNat - l.toNat) (cap.sub l.toNat)) k))
            else .need (0 ≤ l ∧ l ≤ h ∧ (h ≤ (len : Int) ∨ cap.leP h)) (ret st d (.sl false b sz (frm + l.toNat) (h.toNat - l.toNat) (cap.sub l.toNat)) k)
        | _, _ => .fail 61) else .fail 62
      | .ns => if Nat.beq s 0 then .fail 63 else (match bnd 0 lo, bnd 0 hi with
        | some l, some h => needL (bndL lo && bndL hi) (0 ≤ l ∧ l ≤ h ∧ h ≤ 0) (bndB l h 0) (ret st d .ns k) 163
        | _, _ => .fail 63)
      | _ => .fail 64)
    | _ => .fail 65)
  | none => .fail 66
theorem bnd_rel {ρ : Ren} {tm : Slots} {a : Act} (hr : RelS ρ tm a.tmps.toList) {dflt n : Int} {x : Option Operand} (h : bnd dflt (x.map (opnd tm)) = some n) : x.map a.eval = none ∧ n = dflt ∨ ∃ k, x.map a.eval = some (.int k n) := by
  cases x with
  | none => simp only [Option.map_none, bnd, Option.some.injEq] at h; exact .inl ⟨rfl, h.symm⟩
  | some x =>
    simp only [Option.map_some, bnd, Option.map_eq_some_iff] at h
    obtain ⟨⟨k, m⟩, e, rfl⟩ := h
    exact .inr ⟨k, by rw [Option.map_some, numOf_rel e (opnd_rel hr x)]⟩
theorem owes_slice (hty : ∀ t i, E.ty t = some i → tiOf P t = some i) (t : TypeId) (x : Operand) (lo hi : Option Operand) (h : o.op = .slice t x lo hi none) : OwesV P Q o st (opSlice E.ty st o.dst t (opnd st.tm x) (lo.map (opnd st.tm)) (hi.map (opnd st.tm))) := by
  intro k hk ρ a H
  have hx := opnd_rel H x
  unfold opSlice at hk
  split at hk
  next ti hti =>
    split at hk
    next e s hs =>
      obtain ⟨hu, hsz⟩ := tiOf_sli (hty _ _ hti) hs
      split at hk
      next lit b sz frm len cap hxe =>
        rw [hxe] at hx
        simp only [SV.Rel] at hx
        obtain ⟨ad, cz, hxv, hci, hle, had⟩ := hx
        split at hk
        next hc =>
          simp only [Bool.and_eq_true, Bool.not_eq_true'] at hc
          have e1 := Nat.eq_of_beq_eq_true hc.1
          subst e1
          have h0 : s ≠ 0 := fun e => by subst e; simp at hc
          have hsr := fun w => (szOf_run hsz h0 w).1
          split at hk
          next l hh hl hh' =>
            have fin : ∀ lit', (0 ≤ l ∧ l ≤ hh ∧ (hh ≤ (len : Int) ∨ cap.leP hh)) → (ret st o.dst (.sl lit' b s (frm + l.toNat) (hh.toNat - l.toNat) (cap.sub l.toNat)) k).den Q →
                ∃ (x : SV) (v : Value), (k { st with tm := put st.tm o.dst x }).den Q ∧ SV.Rel ρ x v ∧ ∀ w, (execOp a.eval o).run P w = .ok (.value v) w := by
              intro lit' ⟨q0, q1, q2⟩ hk
              have q2 : hh ≤ (cz : Int) := q2.elim (fun q => by omega) fun q => Cap.leP_is q hci
              refine ⟨_, (.slice (if cz = l.toNat then ad else ad.map (·.add (l.toNat * s))) (hh.toNat - l.toNat) (cz - l.toNat)), hk, ?_, fun w => ?_⟩
              · simp only [SV.Rel]
                refine ⟨_, _, rfl, hci.sub _, by omega, fun hp => ?_⟩
                obtain ⟨g, hg, had⟩ := had (Cap.hasB_sub hp)
                refine ⟨g, hg, fun hp => ?_⟩
                have hp := hp.resolve_right Cap.sub_zz
                rw [if_neg (by omega), had (.inl (by omega)), Option.map_some, add_plain', Nat.add_mul]
              · simp only [execOp, h, hxv, Option.map_none, Sem.run_bind, run_sliceAt_g hu (hsr w) ad len cz _ _ l hh (bnd_rel H hl) (bnd_rel H hh') q0 q1 q2, Result.andThen, Sem.run_pure]
            split at hk
            · split at hk
              next hb =>
                obtain ⟨q0, q1, q2⟩ := bndB_spec hb
                exact fin true ⟨q0, q1, .inl q2⟩ hk
              next => exact fin true hk.1 (hk.2 hk.1)
            · exact fin false hk.1 (hk.2 hk.1)
          · exact hk.elim
        · exact hk.elim
      next hxe =>
        rw [hxe] at hx
        simp only [SV.Rel] at hx
        split at hk
        · exact hk.elim
        next h0 =>
          have h0' : s ≠ 0 := fun e => h0 (by rw [e]; rfl)
          have hsr := fun w => (szOf_run hsz h0' w).1
          split at hk
          next l hh hl hh' =>
            obtain ⟨⟨q0, q1, q2⟩, hk2⟩ := needL_snd (fun e => by have := bndB_spec e; simpa using this) hk
            clear hk
            have l0 : l = 0 := by omega
            have hh0 : hh = 0 := by omega
            subst l0 hh0
            refine ⟨_, (.slice none 0 0), hk2, (by simp only [SV.Rel]), fun w => ?_⟩
            have := run_sliceAt_g hu (hsr w) none 0 0 (lo.map a.eval) (hi.map a.eval) 0 0 (bnd_rel H hl) (bnd_rel H hh') (by omega) (by omega) (by simp)
            simp only [Int.toNat_zero, if_true, Nat.sub_zero] at this
            simp only [execOp, h, hx, Option.map_none, Sem.run_bind, this, Result.andThen, Sem.run_pure]
          · exact hk.elim
      · exact hk.elim
    · exact hk.elim
  · exact hk.elim
end
end SX
end Go.Proofs.YtnjaaagiindclaaGreatDoor

/-
  SX: numbers and tests. No program in sight.
-/
namespace Go.Proofs.YtnjaaagiindclaaGreatDoor
open Go.RowKit Go.Deep
namespace SX

/-- a number that its kind holds -/
def fits : IntKind → Int → Prop
  | .i8, n => -128 ≤ n ∧ n ≤ 127
  | .i16, n => -32768 ≤ n ∧ n ≤ 32767
  | .i32, n => -2147483648 ≤ n ∧ n ≤ 2147483647
  | .i64, n => -9223372036854775808 ≤ n ∧ n ≤ 9223372036854775807
  | .u8, n => 0 ≤ n ∧ n ≤ 255
  | .u16, n => 0 ≤ n ∧ n ≤ 65535
  | .u32, n => 0 ≤ n ∧ n ≤ 4294967295
  | .u64, n => 0 ≤ n ∧ n ≤ 18446744073709551615
/-- the same of a known number, checked -/
def fitsB (k : IntKind) (n : Int) : Bool := match n with
  | .ofNat m => (match k with
    | .i8 => Nat.ble m 127
    | .i16 => Nat.ble m 32767
    | .i32 => Nat.ble m 2147483647
    | .i64 => Nat.ble m 9223372036854775807
    | .u8 => Nat.ble m 255
    | .u16 => Nat.ble m 65535
    | .u32 => Nat.ble m 4294967295
    | .u64 => Nat.ble m 18446744073709551615)
  | .negSucc m => (match k with
    | .i8 => Nat.ble m 127
    | .i16 => Nat.ble m 32767
    | .i32 => Nat.ble m 2147483647
    | .i64 => Nat.ble m 9223372036854775807
    | _ => false)
theorem fitsB_spec {k : IntKind} {n : Int} (h : fitsB k n = true) : fits k n := by
  unfold fitsB at h
  cases n with
  | ofNat m => cases k <;> simp only at h <;> have := Nat.le_of_ble_eq_true h <;> simp only [fits, Int.ofNat_eq_natCast] <;> omega
  | negSucc m =>
    cases k <;> simp only at h
    all_goals first
      | (exfalso; exact Bool.noConfusion h)
      | (have := Nat.le_of_ble_eq_true h; simp only [fits]; omega)
theorem wrap_fits {k : IntKind} {n : Int} (h : fits k n) : k.wrap n = n := by
  cases k <;> simp only [fits] at h <;> simp only [IntKind.wrap, IntKind.bits, IntKind.signed, Bool.true_and, Bool.false_and, Bool.false_eq_true, if_false, ge_iff_le, decide_eq_true_eq] <;> (try split) <;> omega
def isUns : IntKind → Bool
  | .u8 => true | .u16 => true | .u32 => true | .u64 => true
  | _ => false
def bitsI (o : BinOp) (k : IntKind) (a b : Int) : Int :=
  let x := BitVec.ofInt k.bits a
  let y := BitVec.ofInt k.bits b
  k.wrap (match o with
    | .and => x &&& y
    | .or => x ||| y
    | .xor => x ^^^ y
    | _ => x &&& ~~~y).toNat
def shlI (k : IntKind) (a b : Int) : Int := k.wrap (a * 2 ^ (min b.toNat k.bits))
def shrI (k : IntKind) (a b : Int) : Int := a.fdiv (2 ^ (min b.toNat k.bits))
def ofB (b : Bool) : SV := if b then .tt else .ff
theorem ofB_rel (ρ : Ren) (b : Bool) : (ofB b).Rel ρ (.bool b) := by cases b <;> simp only [ofB, Bool.false_eq_true, if_true, if_false, SV.Rel]
/-- both known? -/
def lits : SV → SV → Bool
  | x, y => match x with | .l _ _ => (match y with | .l _ _ => true | _ => false) | _ => false
def numV (lit : Bool) (k : IntKind) (n : Int) : SV := if lit then .l k n else .i k n
theorem numV_rel (ρ : Ren) (lit : Bool) (k : IntKind) (n : Int) : (numV lit k n).Rel ρ (.int k n) := by cases lit <;> simp only [numV, Bool.false_eq_true, if_true, if_false, SV.Rel]
def tstV (lit : Bool) (b : Bool) : SV := if lit then ofB b else .b b
theorem tstV_rel (ρ : Ren) (lit : Bool) (b : Bool) : (tstV lit b).Rel ρ (.bool b) := by
  cases lit
  · simp only [tstV, Bool.false_eq_true, if_false, SV.Rel]
  · simp only [tstV, if_true]; exact ofB_rel ρ b

def isPos : Int → Bool
  | .ofNat (_ + 1) => true
  | _ => false
def isNN : Int → Bool
  | .ofNat _ => true
  | _ => false
theorem isPos_spec {n : Int} (h : isPos n = true) : 0 < n := by
  unfold isPos at h
  split at h
  · simp only [Int.ofNat_eq_natCast]; omega
  · cases h
theorem isNN_spec {n : Int} (h : isNN n = true) : 0 ≤ n := by
  unfold isNN at h
  split at h
  · simp only [Int.ofNat_eq_natCast]; omega
  · cases h
/-- an operation on numbers: a value, what it wants, and a check of that -/
def numOp (wr : Bool) (o : BinOp) (lit : Bool) (k : IntKind) (a b : Int) : Option (Prop × Bool × SV) := match o with
  | .add => some (if wr then (True, true, numV lit k (k.wrap (a + b))) else (fits k (a + b), fitsB k (a + b), numV lit k (a + b)))
  | .sub => some (if wr then (True, true, numV lit k (k.wrap (a - b))) else (fits k (a - b), fitsB k (a - b), numV lit k (a - b)))
  | .mul => some (if wr then (True, true, numV lit k (k.wrap (a * b))) else (fits k (a * b), fitsB k (a * b), numV lit k (a * b)))
  | .quo => some (if isUns k then (0 ≤ a ∧ 0 < b ∧ fits k (a / b), isNN a && isPos b && fitsB k (a / b), numV lit k (a / b)) else (b ≠ 0 ∧ fits k (a.tdiv b), isPos b && fitsB k (a.tdiv b), numV lit k (a.tdiv b)))
  | .rem => some (if isUns k then (0 ≤ a ∧ 0 < b, isNN a && isPos b, numV lit k (a % b)) else (b ≠ 0, isPos b, numV lit k (a.tmod b)))
  | .and => some (True, true, numV lit k (bitsI .and k a b))
  | .or => some (True, true, numV lit k (bitsI .or k a b))
  | .xor => some (True, true, numV lit k (bitsI .xor k a b))
  | .andNot => some (True, true, numV lit k (bitsI .andNot k a b))
  | .eql => some (True, true, tstV lit (a == b))
  | .neq => some (True, true, tstV lit (a != b))
  | .lss => some (True, true, tstV lit (decide (a < b)))
  | .leq => some (True, true, tstV lit (decide (a ≤ b)))
  | .gtr => some (True, true, tstV lit (decide (a > b)))
  | .geq => some (True, true, tstV lit (decide (a ≥ b)))
  | .shl => none
  | .shr => none
theorem numOp_chk {wr : Bool} {o : BinOp} {lit : Bool} {k : IntKind} {a b : Int} {q : Prop × Bool × SV} (h : numOp wr o lit k a b = some q) (hc : q.2.1 = true) : q.1 := by
  cases o <;> simp only [numOp, Option.some.injEq, reduceCtorEq] at h <;> (try (subst h; exact trivial))
  · subst h; cases wr <;> simp only [Bool.false_eq_true, if_false, if_true] at hc ⊢; exact fitsB_spec hc
  · subst h; cases wr <;> simp only [Bool.false_eq_true, if_false, if_true] at hc ⊢; exact fitsB_spec hc
  · subst h; cases wr <;> simp only [Bool.false_eq_true, if_false, if_true] at hc ⊢; exact fitsB_spec hc
  · subst h
    split
    next hu =>
      simp only [hu, if_true, Bool.and_eq_true] at hc
      exact ⟨isNN_spec hc.1.1, isPos_spec hc.1.2, fitsB_spec hc.2⟩
    next hu =>
      rw [if_neg hu] at hc
      simp only [Bool.and_eq_true] at hc
      have := isPos_spec hc.1
      exact ⟨by omega, fitsB_spec hc.2⟩
  · subst h
    split
    next hu =>
      simp only [hu, if_true, Bool.and_eq_true] at hc
      exact ⟨isNN_spec hc.1, isPos_spec hc.2⟩
    next hu =>
      rw [if_neg hu] at hc
      have := isPos_spec hc
      simp only; omega
theorem numOp_run {P : Program} {wr : Bool} {o : BinOp} {lit : Bool} {k : IntKind} {a b : Int} {q : Prop × Bool × SV} (h : numOp wr o lit k a b = some q) (hp : q.1) (t : TypeId) (ρ : Ren) :
    ∃ v, (∀ w, (binOp o t (.int k a) (.int k b)).run P w = .ok v w) ∧ q.2.2.Rel ρ v := by
  cases o <;> simp only [numOp, Option.some.injEq, reduceCtorEq] at h
  case add =>
    subst h
    cases wr <;> simp only [Bool.false_eq_true, if_false, if_true] at hp ⊢
    · exact ⟨.int k (a + b), fun w => by simp [binOp, Op.intArith, wrap_fits hp], numV_rel ρ _ _ _⟩
    · exact ⟨.int k (k.wrap (a + b)), fun w => by simp [binOp, Op.intArith], numV_rel ρ _ _ _⟩
  case sub =>
    subst h
    cases wr <;> simp only [Bool.false_eq_true, if_false, if_true] at hp ⊢
    · exact ⟨.int k (a - b), fun w => by simp [binOp, Op.intArith, wrap_fits hp], numV_rel ρ _ _ _⟩
    · exact ⟨.int k (k.wrap (a - b)), fun w => by simp [binOp, Op.intArith], numV_rel ρ _ _ _⟩
  case mul =>
    subst h
    cases wr <;> simp only [Bool.false_eq_true, if_false, if_true] at hp ⊢
    · exact ⟨.int k (a * b), fun w => by simp [binOp, Op.intArith, wrap_fits hp], numV_rel ρ _ _ _⟩
    · exact ⟨.int k (k.wrap (a * b)), fun w => by simp [binOp, Op.intArith], numV_rel ρ _ _ _⟩
  case quo =>
    subst h
    split at hp
    next hu =>
      obtain ⟨h1, h2, h3⟩ := hp
      rw [if_pos hu]
      have e : a.tdiv b = a / b := Int.tdiv_eq_ediv_of_nonneg h1
      exact ⟨.int k (a / b), fun w => by simp [binOp, Op.intDiv, show b ≠ 0 from by omega, e, wrap_fits h3], numV_rel ρ _ _ _⟩
    next hu =>
      have h1 : b ≠ 0 := hp.1
      have h3 : fits k (a.tdiv b) := hp.2
      rw [if_neg hu]
      exact ⟨.int k (a.tdiv b), fun w => by simp [binOp, Op.intDiv, h1, wrap_fits h3], numV_rel ρ _ _ _⟩
  case rem =>
    subst h
    split at hp
    next hu =>
      obtain ⟨h1, h2⟩ := hp
      rw [if_pos hu]
      have e : a.tmod b = a % b := Int.tmod_eq_emod_of_nonneg h1
      exact ⟨.int k (a % b), fun w => by simp [binOp, Op.intDiv, show b ≠ 0 from by omega, e], numV_rel ρ _ _ _⟩
    next hu =>
      have h1 : b ≠ 0 := hp
      rw [if_neg hu]
      exact ⟨.int k (a.tmod b), fun w => by simp [binOp, Op.intDiv, h1], numV_rel ρ _ _ _⟩
  case and => subst h; exact ⟨.int k (bitsI .and k a b), fun w => by simp [binOp, Op.intBits, bitsI], numV_rel ρ _ _ _⟩
  case or => subst h; exact ⟨.int k (bitsI .or k a b), fun w => by simp [binOp, Op.intBits, bitsI], numV_rel ρ _ _ _⟩
  case xor => subst h; exact ⟨.int k (bitsI .xor k a b), fun w => by simp [binOp, Op.intBits, bitsI], numV_rel ρ _ _ _⟩
  case andNot => subst h; exact ⟨.int k (bitsI .andNot k a b), fun w => by simp [binOp, Op.intBits, bitsI], numV_rel ρ _ _ _⟩
  case eql => subst h; exact ⟨.bool (a == b), fun w => by simp [binOp, Op.intCmp], tstV_rel ρ _ _⟩
  case neq => subst h; exact ⟨.bool (a != b), fun w => by simp [binOp, Op.intCmp], tstV_rel ρ _ _⟩
  case lss => subst h; exact ⟨.bool (decide (a < b)), fun w => by simp [binOp, Op.intCmp], tstV_rel ρ _ _⟩
  case leq => subst h; exact ⟨.bool (decide (a ≤ b)), fun w => by simp [binOp, Op.intCmp], tstV_rel ρ _ _⟩
  case gtr => subst h; exact ⟨.bool (decide (a > b)), fun w => by simp [binOp, Op.intCmp], tstV_rel ρ _ _⟩
  case geq => subst h; exact ⟨.bool (decide (a ≥ b)), fun w => by simp [binOp, Op.intCmp], tstV_rel ρ _ _⟩

section
variable {P : Program} {C : Ctx} {ρ0 : Ren} {Q : Ex → St → Prop} {o : Oper} {st : St} {E : Env}

def litB : SV → Bool
  | .tt => true
  | .ff => true
  | _ => false
theorem guard_bool {w : World} (op : BinOp) (t : TypeId) (x y : Operand) (a b : Bool) : (eqGuard op t x y (.bool a) (.bool b)).run P w = .ok () w := by
  cases op <;> simp [eqGuard]
def strCat (x y : SV) : Option SV := match x with
  | .t a => (match y with
    | .t b => some (.t (a ++ b))
    | .s b => some (.s (bytesOf a ++ b))
    | _ => none)
  | .s a => (match y with
    | .t b => some (.s (a ++ bytesOf b))
    | .s b => some (.s (a ++ b))
    | _ => none)
  | _ => none
def strOf : SV → Option ByteArray
  | .t a => some (bytesOf a)
  | .s a => some a
  | _ => none
def isT : SV → Bool
  | .t _ => true
  | _ => false
/-- the same bytes? -/
def eqBy : List UInt8 → List UInt8 → Bool
  | [], [] => true
  | a :: l, b :: m => if Nat.beq a.toNat b.toNat then eqBy l m else false
  | _, _ => false
theorem eqBy_spec : ∀ (l m : List UInt8), eqBy l m = (l == m)
  | [], [] => rfl
  | [], _ :: _ => rfl
  | _ :: _, [] => rfl
  | a :: l, b :: m => by
    simp only [eqBy]
    have : Nat.beq a.toNat b.toNat = (a == b) := by
      rw [Bool.eq_iff_iff, Nat.beq_eq, beq_iff_eq]
      exact ⟨fun h => UInt8.toNat_inj.1 h, fun h => by rw [h]⟩
    rw [this, eqBy_spec l m]
    show _ = (a == b && l == m)
    cases (a == b) <;> rfl
noncomputable def opStr (st : St) (d : Option Nat) (op : BinOp) (x y : SV) (a b : ByteArray) (k : St → Tree) : Tree := match op with
  | .add => (match strCat x y with
    | some z => needL (isT x && isT y) (((a.size + b.size : Nat) : Int) ≤ 9223372036854775807) (match x with | .t l => (match y with | .t m => Nat.ble (l.length + m.length) 100000 | _ => false) | _ => false) (ret st d z k) 180
    | none => .fail 181)
  | .eql => (match x with
    | .t l => (match y with
      | .t m => ret st d (ofB (eqBy l m)) k
      | _ => ret st d (.b (a.toList == b.toList)) k)
    | _ => ret st d (.b (a.toList == b.toList)) k)
  | .neq => (match x with
    | .t l => (match y with
      | .t m => ret st d (ofB (!eqBy l m)) k
      | _ => ret st d (.b (!(a.toList == b.toList))) k)
    | _ => ret st d (.b (!(a.toList == b.toList))) k)
  | _ => .fail 182
def sameF (a b : FloatKind) : Bool := match a with
  | .f64 => (match b with | .f64 => true | .f32 => false)
  | .f32 => (match b with | .f64 => false | .f32 => true)
theorem sameF_eq {a b : FloatKind} (h : sameF a b = true) : a = b := by
  cases a <;> cases b <;> first | rfl | (simp [sameF] at h)
/-- of two floats; a result that is no number is left open -/
noncomputable def opFlt (st : St) (d : Option Nat) (op : BinOp) (fk : FloatKind) (a b : Nat) (k : St → Tree) : Tree :=
  let arith (r : Option Nat) : Tree := match r with
    | some r => ret st d (.f fk r) k
    | none => .fail 183
  match op with
  | .add => arith (fk.format.add a b)
  | .sub => arith (fk.format.sub a b)
  | .mul => arith (fk.format.mul a b)
  | .quo => arith (fk.format.div a b)
  | .eql => ret st d (ofB (fk.format.order a b == some .eq)) k
  | .neq => ret st d (ofB (fk.format.order a b != some .eq)) k
  | .lss => ret st d (ofB (fk.format.order a b == some .lt)) k
  | .leq => ret st d (ofB (fk.format.order a b == some .lt || fk.format.order a b == some .eq)) k
  | .gtr => ret st d (ofB (fk.format.order a b == some .gt)) k
  | .geq => ret st d (ofB (fk.format.order a b == some .gt || fk.format.order a b == some .eq)) k
  | _ => .fail 184
/-- a test for nil -/
noncomputable def nilT (st : St) (d : Option Nat) (op : BinOp) (isNil : Bool) (k : St → Tree) : Tree := match op with
  | .eql => ret st d (ofB isNil) k
  | .neq => ret st d (ofB (!isNil)) k
  | _ => .fail 73
def isC : Operand → Bool
  | .const _ => true
  | _ => false
noncomputable def opBin (ty : TypeId → Option TI) (wr : Bool) (st : St) (d : Option Nat) (op : BinOp) (t : TypeId) (cy : Bool) (x y : SV) (k : St → Tree) : Tree := match numOf x with
  | some (kx, a) => (match numOf y with
    | some (ky, b) => (match op with
      | .shl => needL (lits x y) (0 ≤ b) (isNN b) (ret st d (numV (lits x y) kx (shlI kx a b)) k) 170
      | .shr => needL (lits x y) (0 ≤ b) (isNN b) (ret st d (numV (lits x y) kx (shrI kx a b)) k) 170
      | _ => if isK kx ky then (match numOp wr op (lits x y) kx a b with
        | some q => needL (lits x y) q.1 q.2.1 (ret st d q.2.2 k) 171
        | none => .fail 70) else .fail 71)
    | none => .fail 72)
  | none => (match strOf x with
    | some a => (match strOf y with
      | some b => opStr st d op x y a b k
      | none => .fail 172)
    | none => (match x with
      | .f fk a => (match y with
        | .f fk' b => if sameF fk fk' then opFlt st d op fk a b k else .fail 173
        | _ => .fail 174)
      | _ => (match ty t with
        | some ti => (match ti.k with
          | .pt _ => (match y with
            | .np => (match x with
              | .np => nilT st d op true k
              | .p .. => nilT st d op false k
              | .rp .. => nilT st d op false k
              | _ => .fail 75)
            | _ => .fail 76)
          | .bo => (match boolOf x with
            | some a => (match boolOf y with
              | some b => (match op with
                | .eql => ret st d (tstV (litB x && litB y) (a == b)) k
                | .neq => ret st d (tstV (litB x && litB y) (a != b)) k
                | _ => .fail 79)
              | none => .fail 83)
            | none => .fail 84)
          | .ifc _ => (match y with
            | .ni => if cy then (match x with
              | .ni => nilT st d op true k
              | .ifc .. => nilT st d op false k
              | _ => .fail 175) else .fail 176
            | _ => .fail 177)
          | .fnc => (match y with
            | .nf => (match x with
              | .nf => nilT st d op true k
              | .fn .. => nilT st d op false k
              | _ => .fail 178)
            | _ => .fail 179)
          | .sli .. => (match y with
            | .ns => (match x with
              | .ns => nilT st d op true k
              | .sl lit _ _ _ len cap => if isZ cap then nilT st d op false k else needL (lit && Nat.blt 0 len) (0 < len ∨ cap.posP) (Nat.blt 0 len) (nilT st d op false k) 185
              | _ => .fail 186)
            | _ => .fail 187)
          | .mp .. => (match y with
            | .nm => (match x with
              | .nm => nilT st d op true k
              | .m _ => nilT st d op false k
              | _ => .fail 188)
            | _ => .fail 189)
          | _ => .fail 77)
        | none => .fail 78)))
theorem guard_num {w : World} (op : BinOp) (t : TypeId) (x y : Operand) (kx ky : IntKind) (a b : Int) : (eqGuard op t x y (.int kx a) (.int ky b)).run P w = .ok () w := by
  cases op <;> simp [eqGuard]
theorem guard_ptr {w : World} (op : BinOp) (t : TypeId) (x y : Operand) (a b : Option Addr) : (eqGuard op t x y (.pointer a) (.pointer b)).run P w = .ok () w := by
  cases op <;> simp [eqGuard]
theorem guard_str {w : World} (op : BinOp) (t : TypeId) (x y : Operand) (a b : ByteArray) : (eqGuard op t x y (.string a) (.string b)).run P w = .ok () w := by
  cases op <;> simp [eqGuard]
theorem guard_flt {w : World} (op : BinOp) (t : TypeId) (x y : Operand) (k k' : FloatKind) (a b : Nat) : (eqGuard op t x y (.float k a) (.float k' b)).run P w = .ok () w := by
  cases op <;> simp [eqGuard]
theorem guard_map {w : World} (op : BinOp) (t : TypeId) (x y : Operand) (a b : Option Nat) : (eqGuard op t x y (.map a) (.map b)).run P w = .ok () w := by
  cases op <;> simp [eqGuard]
theorem guard_sli {w : World} (op : BinOp) (t : TypeId) (x y : Operand) (a b : Option Addr) (l c l' c' : Nat) : (eqGuard op t x y (.slice a l c) (.slice b l' c')).run P w = .ok () w := by
  cases op <;> simp [eqGuard]
theorem equalIn_ifc {w : World} (d : Nat) (t : TypeId) {m : Array (String × TypeId)} (h : P.underlying t = some (.interface m)) : (Op.equalIn (d + 1) t .nilIface .nilIface).run P w = .ok true w ∧ ∀ ty v, (Op.equalIn (d + 1) t (.iface ty v) .nilIface).run P w = .ok false w := by
  constructor
  · simp [Op.equalIn, run_underlying h]
  · intro ty v; simp [Op.equalIn, run_underlying h]
theorem equalIn_fnc {w : World} (d : Nat) (t : TypeId) {a b : Array TypeId} {c : Bool} (h : P.underlying t = some (.func a b c)) : (Op.equalIn (d + 1) t .nilFunc .nilFunc).run P w = .ok true w ∧ ∀ x y z, (Op.equalIn (d + 1) t (.func x y z) .nilFunc).run P w = .ok false w := by
  constructor
  · simp [Op.equalIn, run_underlying h]
  · intro x y z; simp [Op.equalIn, run_underlying h]
theorem equalIn_sli {w : World} (d : Nat) (t : TypeId) {e : TypeId} (h : P.underlying t = some (.slice e)) (a : Option Addr) (l c : Nat) : (Op.equalIn (d + 1) t (.slice a l c) (.slice none 0 0)).run P w = .ok a.isNone w := by
  cases a <;> simp [Op.equalIn, run_underlying h]
theorem equalIn_map {w : World} (d : Nat) (t : TypeId) {k e : TypeId} (h : P.underlying t = some (.map k e)) (a : Option Nat) : (Op.equalIn (d + 1) t (.map a) (.map none)).run P w = .ok a.isNone w := by
  cases a <;> simp [Op.equalIn, run_underlying h]
theorem strOf_rel {ρ : Ren} {x : SV} {a : ByteArray} (h : strOf x = some a) {v : Value} (r : x.Rel ρ v) : v = .string a := by
  cases x <;> simp only [strOf, reduceCtorEq, Option.some.injEq] at h
  all_goals (subst h; simp only [SV.Rel] at r; exact r)
theorem toList_bytesOf (l : List UInt8) : (bytesOf l).toList = l := by
  exact ByteArray.toList_mk l
theorem strCat_rel {ρ : Ren} {x y z : SV} {a b : ByteArray} (hx : strOf x = some a) (hy : strOf y = some b) (h : strCat x y = some z) : z.Rel ρ (.string (a ++ b)) := by
  cases x <;> simp only [strOf, reduceCtorEq, Option.some.injEq] at hx <;> cases y <;> simp only [strOf, reduceCtorEq, Option.some.injEq] at hy <;> subst hx hy <;> simp only [strCat, Option.some.injEq] at h <;> subst h <;> simp only [SV.Rel]
  all_goals first
    | rfl
    | (congr 1; simp [bytesOf, ByteArray.ext_iff])
theorem nilT_snd {op : BinOp} {d : Option Nat} {b : Bool} {k : St → Tree} (hk : (nilT st d op b k).den Q) : (op = .eql ∧ (ret st d (ofB b) k).den Q) ∨ (op = .neq ∧ (ret st d (ofB (!b)) k).den Q) := by
  unfold nilT at hk
  split at hk
  · exact .inl ⟨rfl, hk⟩
  · exact .inr ⟨rfl, hk⟩
  · exact hk.elim
set_option maxHeartbeats 1000000 in
theorem owes_bin (hty : ∀ t i, E.ty t = some i → tiOf P t = some i) (wr : Bool) (op : BinOp) (t : TypeId) (x y : Operand) (t' : TypeId) (h : o.op = .binOp op t x y t') :
    OwesV P Q o st (opBin E.ty wr st o.dst op t (isC y) (opnd st.tm x) (opnd st.tm y)) := by
  intro k hk ρ a H
  have hx := opnd_rel H x
  have hy := opnd_rel H y
  have fin : ∀ (s : SV) (v : Value), (∀ w, (execOp a.eval o).run P w = .ok (.value v) w) → s.Rel ρ v → (ret st o.dst s k).den Q → ∃ x v, (k { st with tm := put st.tm o.dst x }).den Q ∧ SV.Rel ρ x v ∧ ∀ w, (execOp a.eval o).run P w = .ok (.value v) w := fun s v hr hs hk => ⟨s, v, hk, hs, hr⟩
  have fnil : ∀ b, (∀ w, (Op.equal t (a.eval x) (a.eval y)).run P w = .ok b w) → (∀ w, (eqGuard op t x y (a.eval x) (a.eval y)).run P w = .ok () w) →
      (∀ w, op = .eql → (binOp .eql t (a.eval x) (a.eval y)).run P w = ((Op.equal t (a.eval x) (a.eval y)).run P w).andThen fun b w => .ok (.bool b) w) →
      (∀ w, op = .neq → (binOp .neq t (a.eval x) (a.eval y)).run P w = ((Op.equal t (a.eval x) (a.eval y)).run P w).andThen fun b w => .ok (.bool !b) w) →
      (nilT st o.dst op b k).den Q → ∃ x v, (k { st with tm := put st.tm o.dst x }).den Q ∧ SV.Rel ρ x v ∧ ∀ w, (execOp a.eval o).run P w = .ok (.value v) w := by
    intro b hb hg h1 h2 hk
    rcases nilT_snd hk with ⟨e, hk⟩ | ⟨e, hk⟩
    · exact fin _ (.bool b) (fun w => by subst e; simp [execOp, h, hg, h1 w rfl, hb]) (ofB_rel ρ _) hk
    · exact fin _ (.bool !b) (fun w => by subst e; simp [execOp, h, hg, h2 w rfl, hb]) (ofB_rel ρ _) hk
  unfold opBin at hk
  split at hk
  next kx n hxn =>
    have hxv := numOf_rel hxn hx
    split at hk
    next ky m hym =>
      have hyv := numOf_rel hym hy
      split at hk
      next =>
        obtain ⟨h0, hk⟩ := needL_snd isNN_spec hk
        refine fin _ (.int kx (shlI kx n m)) ?_ (numV_rel ρ _ _ _) hk
        intro w
        simp [execOp, h, hxv, hyv, guard_num, binOp, Op.shift, show ¬ m < 0 from by omega, shlI]
      next =>
        obtain ⟨h0, hk⟩ := needL_snd isNN_spec hk
        refine fin _ (.int kx (shrI kx n m)) ?_ (numV_rel ρ _ _ _) hk
        intro w
        simp [execOp, h, hxv, hyv, guard_num, binOp, Op.shift, show ¬ m < 0 from by omega, shrI]
      next =>
        split at hk
        next hK =>
          have := isK_eq hK
          subst this
          split at hk
          next q hq =>
            obtain ⟨h0, hk⟩ := needL_snd (numOp_chk hq) hk
            obtain ⟨v, hr, hv⟩ := numOp_run (P := P) hq h0 t ρ
            refine fin _ v ?_ hv hk
            intro w
            simp [execOp, h, hxv, hyv, guard_num, hr]
          · exact hk.elim
        · exact hk.elim
    · exact hk.elim
  next =>
   split at hk
   next sa hsa =>
    have hxv := strOf_rel hsa hx
    split at hk
    next sb hsb =>
      have hyv := strOf_rel hsb hy
      have teq : ∀ l m, opnd st.tm x = .t l → opnd st.tm y = .t m → eqBy l m = (sa.toList == sb.toList) := by
        intro l m e1 e2
        rw [e1] at hsa; rw [e2] at hsb
        simp only [strOf, Option.some.injEq] at hsa hsb
        subst hsa hsb
        rw [eqBy_spec, toList_bytesOf, toList_bytesOf]
      unfold opStr at hk
      split at hk
      next =>
        split at hk
        next z hz =>
          obtain ⟨h0, hk⟩ := needL_snd (p := ((sa.size + sb.size : Nat) : Int) ≤ 9223372036854775807) (by
            intro e
            split at e
            next l e1 =>
              split at e
              next m e2 =>
                rw [e1] at hsa; rw [e2] at hsb
                simp only [strOf, Option.some.injEq] at hsa hsb
                subst hsa hsb
                have := Nat.le_of_ble_eq_true e
                simp only [bytesOf, ByteArray.size, List.size_toArray]
                omega
              · cases e
            · cases e) hk
          refine fin _ (.string (sa ++ sb)) (fun w => ?_) (strCat_rel hsa hsb hz) hk
          have : ¬ (((sa.size + sb.size : Nat) : Int) > IntKind.i64.max) := by
            have e : (IntKind.i64.max : Int) = 9223372036854775807 := by decide
            rw [e]; omega
          simp only [execOp, h, hxv, hyv, Sem.run_bind, guard_str, Result.andThen, binOp, Op.stringOp, if_neg this, Sem.run_pure]
        · exact hk.elim
      next =>
        have run : ∀ w, (execOp a.eval o).run P w = .ok (.value (.bool (sa.toList == sb.toList))) w := fun w => by simp [execOp, h, hxv, hyv, guard_str, binOp, Op.stringOp]
        split at hk
        next l e1 =>
          split at hk
          next m e2 => exact fin _ _ run (by rw [teq l m e1 e2]; exact ofB_rel ρ _) hk
          next => exact fin _ _ run (by simp only [SV.Rel]) hk
        next => exact fin _ _ run (by simp only [SV.Rel]) hk
      next =>
        have run : ∀ w, (execOp a.eval o).run P w = .ok (.value (.bool (!(sa.toList == sb.toList)))) w := fun w => by simp [execOp, h, hxv, hyv, guard_str, binOp, Op.stringOp]
        split at hk
        next l e1 =>
          split at hk
          next m e2 => exact fin _ _ run (by rw [teq l m e1 e2]; exact ofB_rel ρ _) hk
          next => exact fin _ _ run (by simp only [SV.Rel]) hk
        next => exact fin _ _ run (by simp only [SV.Rel]) hk
      · exact hk.elim
    · exact hk.elim
   next =>
    split at hk
    next fk fa hxe =>
      rw [hxe] at hx
      simp only [SV.Rel] at hx
      split at hk
      next fk' fb hye =>
        rw [hye] at hy
        simp only [SV.Rel] at hy
        split at hk
        next hf =>
          have hfk := sameF_eq hf
          subst hfk
          unfold opFlt at hk
          simp only at hk
          have ar : ∀ (r : Option Nat), (∀ r', r = some r' → ∀ w, (execOp a.eval o).run P w = .ok (.value (.float fk r')) w) → (match r with | some r => ret st o.dst (.f fk r) k | none => Tree.fail 183).den Q →
              ∃ x v, (k { st with tm := put st.tm o.dst x }).den Q ∧ SV.Rel ρ x v ∧ ∀ w, (execOp a.eval o).run P w = .ok (.value v) w := by
            intro r hr hk
            cases r with
            | none => exact hk.elim
            | some r => exact fin _ _ (hr r rfl) (by simp only [SV.Rel]) hk
          split at hk
          · exact ar _ (fun r' e w => by simp [execOp, h, hx, hy, guard_flt, binOp, Op.floatArith, e]) hk
          · exact ar _ (fun r' e w => by simp [execOp, h, hx, hy, guard_flt, binOp, Op.floatArith, e]) hk
          · exact ar _ (fun r' e w => by simp [execOp, h, hx, hy, guard_flt, binOp, Op.floatArith, e]) hk
          · exact ar _ (fun r' e w => by simp [execOp, h, hx, hy, guard_flt, binOp, Op.floatArith, e]) hk
          · exact fin _ _ (fun w => by simp [execOp, h, hx, hy, guard_flt, binOp, Op.floatCmp]) (ofB_rel ρ _) hk
          · exact fin _ _ (fun w => by simp [execOp, h, hx, hy, guard_flt, binOp, Op.floatCmp]) (ofB_rel ρ _) hk
          · exact fin _ _ (fun w => by simp [execOp, h, hx, hy, guard_flt, binOp, Op.floatCmp]) (ofB_rel ρ _) hk
          · exact fin _ _ (fun w => by simp [execOp, h, hx, hy, guard_flt, binOp, Op.floatCmp]) (ofB_rel ρ _) hk
          · exact fin _ _ (fun w => by simp [execOp, h, hx, hy, guard_flt, binOp, Op.floatCmp]) (ofB_rel ρ _) hk
          · exact fin _ _ (fun w => by simp [execOp, h, hx, hy, guard_flt, binOp, Op.floatCmp]) (ofB_rel ρ _) hk
          · exact hk.elim
        · exact hk.elim
      · exact hk.elim
    next =>
     split at hk
     next ti hti =>
      split at hk
      next e he =>
        have hu := tiOf_pt (hty _ _ hti) he
        have hu' : P.underlying t = some (.pointer (P.pointee t)) := by simp [Program.pointee, hu]
        split at hk
        next hye =>
          rw [hye] at hy
          simp only [SV.Rel] at hy
          have go : ∀ ad : Option Addr, a.eval x = .pointer ad → (nilT st o.dst op ad.isNone k).den Q → ∃ x v, (k { st with tm := put st.tm o.dst x }).den Q ∧ SV.Rel ρ x v ∧ ∀ w, (execOp a.eval o).run P w = .ok (.value v) w := by
            intro ad hxv hk
            refine fnil ad.isNone (fun w => ?_) (fun w => ?_) (fun w _ => ?_) (fun w _ => ?_) hk
            · rw [hxv, hy]; exact run_equal_pointer_nil (P := P) w t ad hu'
            · rw [hxv, hy]; exact guard_ptr ..
            · rw [hxv, hy]; simp [binOp, Result.andThen]
            · rw [hxv, hy]; simp [binOp, Result.andThen]
          split at hk
          next hxe => rw [hxe] at hx; simp only [SV.Rel] at hx; exact go _ hx hk
          next b q hxe => rw [hxe] at hx; simp only [SV.Rel] at hx; obtain ⟨g, _, hx⟩ := hx; exact go _ hx hk
          next b q hxe => rw [hxe] at hx; simp only [SV.Rel] at hx; exact go _ hx hk
          · exact hk.elim
        · exact hk.elim
      next hb =>
        have hu := tiOf_bo (hty _ _ hti) hb
        split at hk
        next p hp =>
          have hxv := boolOf_rel hp hx
          split at hk
          next q hq' =>
            have hyv := boolOf_rel hq' hy
            have hq := fun w => run_equal_bool (P := P) w t p q hu
            split at hk
            · exact fin _ (.bool (p == q)) (fun w => by simp [execOp, h, hxv, hyv, guard_bool, binOp, hq]) (tstV_rel ρ _ _) hk
            · exact fin _ (.bool (p != q)) (fun w => by simp [execOp, h, hxv, hyv, guard_bool, binOp, hq, bne]) (tstV_rel ρ _ _) hk
            · exact hk.elim
          · exact hk.elim
        · exact hk.elim
      next b hb =>
        obtain ⟨ms, hu, _⟩ := tiOf_ifc (hty _ _ hti) hb
        split at hk
        next hye =>
          split at hk
          next hcy =>
            have hcy' : ∃ c, y = .const c := by
              cases y <;> first | exact ⟨_, rfl⟩ | (exfalso; simp [isC] at hcy)
            obtain ⟨c, rfl⟩ := hcy'
            rw [hye] at hy
            simp only [SV.Rel] at hy
            split at hk
            next hxe =>
              rw [hxe] at hx; simp only [SV.Rel] at hx
              refine fnil true (fun w => ?_) (fun w => ?_) (fun w _ => ?_) (fun w _ => ?_) hk
              · rw [hx, hy]; exact (equalIn_ifc (w := w) 9999 t hu).1
              · rw [hx, hy]; cases op <;> simp [eqGuard]
              · rw [hx, hy]; simp [binOp, Result.andThen]
              · rw [hx, hy]; simp [binOp, Result.andThen]
            next ti' vi hxe =>
              rw [hxe] at hx; simp only [SV.Rel] at hx
              obtain ⟨yv, hx, _⟩ := hx
              refine fnil false (fun w => ?_) (fun w => ?_) (fun w _ => ?_) (fun w _ => ?_) hk
              · rw [hx, hy]; exact (equalIn_ifc (w := w) 9999 t hu).2 _ _
              · rw [hx, hy]; cases op <;> simp [eqGuard]
              · rw [hx, hy]; simp [binOp, Result.andThen]
              · rw [hx, hy]; simp [binOp, Result.andThen]
            · exact hk.elim
          · exact hk.elim
        · exact hk.elim
      next hb =>
        obtain ⟨ps, rs, vr, hu⟩ := tiOf_fnc (hty _ _ hti) hb
        split at hk
        next hye =>
          rw [hye] at hy
          simp only [SV.Rel] at hy
          split at hk
          next hxe =>
            rw [hxe] at hx; simp only [SV.Rel] at hx
            refine fnil true (fun w => ?_) (fun w => ?_) (fun w _ => ?_) (fun w _ => ?_) hk
            · rw [hx, hy]; exact (equalIn_fnc (w := w) 9999 t hu).1
            · rw [hx, hy]; cases op <;> simp [eqGuard]
            · rw [hx, hy]; simp [binOp, Result.andThen]
            · rw [hx, hy]; simp [binOp, Result.andThen]
          next f cap hxe =>
            rw [hxe] at hx; simp only [SV.Rel] at hx
            obtain ⟨cs, hx, _⟩ := hx
            obtain ⟨u1, u2, u3, hfn⟩ := fnV_is f cs
            rw [hfn] at hx
            refine fnil false (fun w => ?_) (fun w => ?_) (fun w _ => ?_) (fun w _ => ?_) hk
            · rw [hx, hy]; exact (equalIn_fnc (w := w) 9999 t hu).2 _ _ _
            · rw [hx, hy]; cases op <;> simp [eqGuard]
            · rw [hx, hy]; simp [binOp, Result.andThen]
            · rw [hx, hy]; simp [binOp, Result.andThen]
          · exact hk.elim
        · exact hk.elim
      next e s hb =>
        have hu := (tiOf_sli (hty _ _ hti) hb).1
        split at hk
        next hye =>
          rw [hye] at hy
          simp only [SV.Rel] at hy
          split at hk
          next hxe =>
            rw [hxe] at hx; simp only [SV.Rel] at hx
            refine fnil true (fun w => ?_) (fun w => ?_) (fun w _ => ?_) (fun w _ => ?_) hk
            · rw [hx, hy]; exact equalIn_sli (w := w) 9999 t hu _ _ _
            · rw [hx, hy]; exact guard_sli ..
            · rw [hx, hy]; simp [binOp, Result.andThen]
            · rw [hx, hy]; simp [binOp, Result.andThen]
          next lit b sz frm len cap hxe =>
            rw [hxe] at hx; simp only [SV.Rel] at hx
            obtain ⟨ad, cz, hx, hci, hle, had⟩ := hx
            obtain ⟨⟨g, rfl⟩, hk⟩ : (∃ g : Nat, ad = some ⟨g, frm * sz, none⟩) ∧ (nilT st o.dst op false k).den Q := by
              split at hk
              next hz =>
                obtain ⟨g, _, h⟩ := had (isZ_hasB hz)
                exact ⟨⟨g, h (.inr (isZ_zz hz))⟩, hk⟩
              next =>
                obtain ⟨h0, hk⟩ := needL_snd (fun e => .inl (blt_lt e)) hk
                obtain ⟨g, _, h⟩ := slB (f := fun g => ⟨g, frm * sz, none⟩) hci had (h0.elim (fun h => by omega) fun h => Cap.posP_is h hci)
                exact ⟨⟨g, h⟩, hk⟩
            refine fnil false (fun w => ?_) (fun w => ?_) (fun w _ => ?_) (fun w _ => ?_) hk
            · rw [hx, hy]; exact equalIn_sli (w := w) 9999 t hu _ _ _
            · rw [hx, hy]; exact guard_sli ..
            · rw [hx, hy]; simp [binOp, Result.andThen]
            · rw [hx, hy]; simp [binOp, Result.andThen]
          · exact hk.elim
        · exact hk.elim
      next kk e hb =>
        have hu := tiOf_mp (hty _ _ hti) hb
        split at hk
        next hye =>
          rw [hye] at hy
          simp only [SV.Rel] at hy
          split at hk
          next hxe =>
            rw [hxe] at hx; simp only [SV.Rel] at hx
            refine fnil true (fun w => ?_) (fun w => ?_) (fun w _ => ?_) (fun w _ => ?_) hk
            · rw [hx, hy]; exact equalIn_map (w := w) 9999 t hu _
            · rw [hx, hy]; exact guard_map ..
            · rw [hx, hy]; simp [binOp, Result.andThen]
            · rw [hx, hy]; simp [binOp, Result.andThen]
          next b hxe =>
            rw [hxe] at hx; simp only [SV.Rel] at hx
            obtain ⟨g, _, hx⟩ := hx
            refine fnil false (fun w => ?_) (fun w => ?_) (fun w _ => ?_) (fun w _ => ?_) hk
            · rw [hx, hy]; exact equalIn_map (w := w) 9999 t hu _
            · rw [hx, hy]; exact guard_map ..
            · rw [hx, hy]; simp [binOp, Result.andThen]
            · rw [hx, hy]; simp [binOp, Result.andThen]
          · exact hk.elim
        · exact hk.elim
      · exact hk.elim
     · exact hk.elim

noncomputable def opUn (st : St) (d : Option Nat) (op : UnOp) (x : SV) (k : St → Tree) : Tree := match op with
  | .not => (match x with
    | .tt => ret st d .ff k
    | .ff => ret st d .tt k
    | .b c => ret st d (.b (!c)) k
    | _ => .fail 80)
  | .xor => (match numOf x with
    | some (kx, n) => ret st d (numV (lits x x) kx (bitsI .xor kx (if kx.signed then -1 else kx.max) n)) k
    | none => .fail 81)
  | .neg => (match numOf x with
    | some (kx, n) => ret st d (numV (lits x x) kx (kx.wrap (0 - n))) k
    | none => .fail 83)
  | _ => .fail 82
theorem owes_un (op : UnOp) (t : TypeId) (x : Operand) (h : o.op = .unOp op t x) : OwesV P Q o st (opUn st o.dst op (opnd st.tm x)) := by
  intro k hk ρ a H
  have hx := opnd_rel H x
  have fin : ∀ (s : SV) (v : Value), (∀ w, (execOp a.eval o).run P w = .ok (.value v) w) → s.Rel ρ v → (ret st o.dst s k).den Q → ∃ x v, (k { st with tm := put st.tm o.dst x }).den Q ∧ SV.Rel ρ x v ∧ ∀ w, (execOp a.eval o).run P w = .ok (.value v) w := fun s v hr hs hk => ⟨s, v, hk, hs, hr⟩
  unfold opUn at hk
  split at hk
  next =>
    split at hk
    next e => rw [e] at hx; simp only [SV.Rel] at hx; exact fin _ (.bool false) (fun w => by simp [execOp, h, hx, Op.unary]) (by simp only [SV.Rel]) hk
    next e => rw [e] at hx; simp only [SV.Rel] at hx; exact fin _ (.bool true) (fun w => by simp [execOp, h, hx, Op.unary]) (by simp only [SV.Rel]) hk
    next c e => rw [e] at hx; simp only [SV.Rel] at hx; exact fin _ (.bool !c) (fun w => by simp [execOp, h, hx, Op.unary]) (by simp only [SV.Rel]) hk
    · exact hk.elim
  next =>
    split at hk
    next kx n e =>
      have hv := numOf_rel e hx
      refine fin _ (.int kx (bitsI .xor kx (if kx.signed then -1 else kx.max) n)) ?_ (numV_rel ρ _ _ _) hk
      intro w
      simp [execOp, h, hv, Op.unary, Op.intBits, bitsI]
    · exact hk.elim
  next =>
    split at hk
    next kx n e =>
      have hv := numOf_rel e hx
      refine fin _ (.int kx (kx.wrap (0 - n))) ?_ (numV_rel ρ _ _ _) hk
      intro w
      simp [execOp, h, hv, Op.unary, Op.intArith]
    · exact hk.elim
  · exact hk.elim
end
end SX
end Go.Proofs.YtnjaaagiindclaaGreatDoor

/-
  SX: conversions, values of many parts. No program in sight.
-/
namespace Go.Proofs.YtnjaaagiindclaaGreatDoor
open Go.RowKit Go.Deep
namespace SX

section
variable {P : Program} {C : Ctx} {ρ0 : Ren} {Q : Ex → St → Prop} {o : Oper} {st : St} {E : Env}

/-! conversions of numbers -/
noncomputable def opConv (ty : TypeId → Option TI) (wr : Bool) (st : St) (d : Option Nat) (s t : TypeId) (x : SV) (k : St → Tree) : Tree := match ty s with
  | some ts => (match ty t with
    | some ti => (match numOf x with
      | some (_, n) => (match ti.k with
        | .num kt => if lits x x then ret st d (.l kt (kt.wrap n)) k else if wr then ret st d (.i kt (kt.wrap n)) k else .need (fits kt n) (ret st d (.i kt n) k)
        | .flt fk => ret st d (.f fk (fk.nearest n)) k
        | _ => .fail 91)
      | none => (match x with
        | .f fk b => (match ti.k with
          | .num kt => (match (fk.decode b).toInt .zero with
            | some n => needL true (kt.min ≤ n ∧ n ≤ kt.max) (decide (kt.min ≤ n) && decide (n ≤ kt.max)) (ret st d (.l kt n) k) 190
            | none => .fail 191)
          | _ => .fail 192)
        | .t l => (match ti.k with
          | .str => (match ts.k with
            | .str => ret st d (.t l) k
            | _ => .fail 194)
          | _ => .fail 193)
        | .s l => (match ti.k with
          | .str => (match ts.k with
            | .str => ret st d (.s l) k
            | _ => .fail 194)
          | _ => .fail 193)
        | _ => .fail 93))
    | none => .fail 92)
  | none => .fail 90
theorem owes_conv (hty : ∀ t i, E.ty t = some i → tiOf P t = some i) (wr : Bool) (s t : TypeId) (x : Operand) (h : o.op = .convert s t x) : OwesV P Q o st (opConv E.ty wr st o.dst s t (opnd st.tm x)) := by
  intro k hk ρ a H
  have hx := opnd_rel H x
  unfold opConv at hk
  split at hk
  next ts hts =>
   obtain ⟨_, ⟨ds, hs, _⟩⟩ := tiOf_is (hty _ _ hts)
   split at hk
   next ti hti =>
    split at hk
    next kx n hxn =>
      have hxv := numOf_rel hxn hx
      split at hk
      next kt hkt =>
        have hu := tiOf_num (hty _ _ hti) hkt
        have hr : ∀ w, (execOp a.eval o).run P w = .ok (.value (.int kt (kt.wrap n))) w := by
          intro w
          simp [execOp, h, hxv, convert, run_underlying hs, run_underlying hu, Conv.intToInt]
        split at hk
        · exact ⟨_, _, hk, (by simp only [SV.Rel]), fun w => hr w⟩
        · split at hk
          · exact ⟨_, _, hk, (by simp only [SV.Rel]), fun w => hr w⟩
          · obtain ⟨h0, hk⟩ := hk
            rw [wrap_fits h0] at hr
            exact ⟨_, _, (hk h0), (by simp only [SV.Rel]), fun w => hr w⟩
      next fk hfk =>
        have hu := tiOf_flt (hty _ _ hti) hfk
        exact ⟨_, .float fk (fk.nearest n), hk, (by simp only [SV.Rel]), fun w => by simp [execOp, h, hxv, convert, run_underlying hs, run_underlying hu, Conv.intToFloat]⟩
      · exact hk.elim
    next =>
      split at hk
      next fk b hxe =>
        rw [hxe] at hx
        simp only [SV.Rel] at hx
        split at hk
        next kt hkt =>
          have hu := tiOf_num (hty _ _ hti) hkt
          split at hk
          next n hn =>
            obtain ⟨h0, hk⟩ := needL_snd (fun e => by simpa using e) hk
            exact ⟨_, .int kt n, hk, (by simp only [SV.Rel]), fun w => by simp [execOp, h, hx, convert, run_underlying hs, run_underlying hu, Conv.floatToInt, hn, h0]⟩
          · exact hk.elim
        · exact hk.elim
      next l hxe =>
        rw [hxe] at hx
        have hx' := hx
        simp only [SV.Rel] at hx'
        split at hk
        next hkt =>
          have hu := tiOf_str (hty _ _ hti) hkt
          split at hk
          next hks =>
            have hus := tiOf_str (hty _ _ hts) hks
            exact ⟨_, a.eval x, hk, hx, fun w => by simp [execOp, h, hx', convert, run_underlying hus, run_underlying hu]⟩
          · exact hk.elim
        · exact hk.elim
      next l hxe =>
        rw [hxe] at hx
        have hx' := hx
        simp only [SV.Rel] at hx'
        split at hk
        next hkt =>
          have hu := tiOf_str (hty _ _ hti) hkt
          split at hk
          next hks =>
            have hus := tiOf_str (hty _ _ hts) hks
            exact ⟨_, a.eval x, hk, hx, fun w => by simp [execOp, h, hx', convert, run_underlying hus, run_underlying hu]⟩
          · exact hk.elim
        · exact hk.elim
      · exact hk.elim
   · exact hk.elim
  · exact hk.elim

/-! what a call brings -/
noncomputable def opExtract (st : St) (d : Option Nat) (x : SV) (i : Nat) (k : St → Tree) : Tree := match x with
  | .tup l => if Nat.blt i l.length then ret st d (lget l i) k else .fail 94
  | _ => .fail 95
theorem owes_extract (x : Operand) (i : Nat) (h : o.op = .extract x i) : OwesV P Q o st (opExtract st o.dst (opnd st.tm x) i) := by
  intro k hk ρ a H
  have hx := opnd_rel H x
  unfold opExtract at hk
  split at hk
  next l e =>
    rw [e] at hx
    simp only [SV.Rel] at hx
    obtain ⟨cs, hc, hr⟩ := hx
    split at hk
    next hi =>
      obtain ⟨v, hv, hvr⟩ := hr.get? (blt_lt hi)
      have hv' : cs[i]? = some v := by rw [← Array.getElem?_toList]; exact hv
      exact ⟨_, (v), hk, hvr, fun w => (by simp [execOp, h, hc, Instr.extract, hv'])⟩
    · exact hk.elim
  · exact hk.elim

noncomputable def opNilCheck (st : St) (d : Option Nat) (x : SV) (k : St → Tree) : Tree := match x with
  | .p .. => ret st d x k
  | .rp .. => ret st d x k
  | .fn .. => ret st d x k
  | _ => .fail 96
theorem owes_nilCheck (x : Operand) (h : o.op = .nilCheck x) : OwesV P Q o st (opNilCheck st o.dst (opnd st.tm x)) := by
  intro k hk ρ a H
  have hx := opnd_rel H x
  unfold opNilCheck at hk
  split at hk
  next b q e =>
    have hx' := hx
    rw [e] at hx'
    simp only [SV.Rel] at hx'
    obtain ⟨g, _, hx'⟩ := hx'
    exact ⟨_, (a.eval x), hk, hx, fun w => (by simp [execOp, h, hx'])⟩
  next b q e =>
    have hx' := hx
    rw [e] at hx'
    simp only [SV.Rel] at hx'
    exact ⟨_, (a.eval x), hk, hx, fun w => (by simp [execOp, h, hx'])⟩
  next f c e =>
    have hx' := hx
    rw [e] at hx'
    simp only [SV.Rel] at hx'
    obtain ⟨cs, hc, _⟩ := hx'
    obtain ⟨u1, u2, u3, hfn⟩ := fnV_is f cs
    rw [hfn] at hc
    exact ⟨_, (a.eval x), hk, hx, fun w => (by simp [execOp, h, hc])⟩
  · exact hk.elim

noncomputable def opFunc (st : St) (d : Option Nat) (f : FuncId) (xs : List SV) (k : St → Tree) : Tree := if Nat.blt f 1048576 then ret st d (.fn f xs) k else .fail 227
theorem owes_func (f : FuncId) (xs : Array Operand) (h : o.op = .makeFunc (.func f) #[] xs) : OwesV P Q o st (opFunc st o.dst f (xs.toList.map (opnd st.tm))) := by
  intro k hk ρ a H
  unfold opFunc at hk
  split at hk
  next hb =>
    refine ⟨_, (.func (.func f) #[] (xs.map a.eval)), hk, ?_, fun w => (by simp [execOp, h, Instr.makeFunc])⟩
    simp only [SV.Rel]
    exact ⟨_, (fnV_lo hb).symm, by rw [Array.toList_map]; exact opnds_rel H _⟩
  · exact hk.elim
/-- a method with its receiver -/
noncomputable def opMeth (st : St) (d : Option Nat) (f : FuncId) (xs : List SV) (k : St → Tree) : Tree := ret st d (.fn (f + 1048576) xs) k
theorem owes_meth (f : FuncId) (xs : Array Operand) (h : o.op = .makeFunc (.func f) xs #[]) : OwesV P Q o st (opMeth st o.dst f (xs.toList.map (opnd st.tm))) := by
  intro k hk ρ a H
  refine ⟨_, (.func (.func f) (xs.map a.eval) #[]), hk, ?_, fun w => (by simp [execOp, h, Instr.makeFunc])⟩
  simp only [SV.Rel]
  exact ⟨_, (fnV_meth _ _).symm, by rw [Array.toList_map]; exact opnds_rel H _⟩

/-! parts put together -/
def fillS (fs : List (Nat × Nat × Bool × TypeId × Bool)) (cs : List SV) : List (Nat × SV) → Option (List SV)
  | [] => some cs
  | (i, x) :: r => match fs[i]? with
    | some c => if oneL (flatV x) && (Nat.beq (flatV x).length c.2.1 && Nat.ble (c.1 + c.2.1) cs.length) then fillS fs (lsets cs c.1 (flatV x)) r else none
    | none => none
theorem fold_lsets (off : Nat) (l : List Value) (c : Array Value) (h : off + l.length ≤ c.size) :
    ((l.zipIdx 0).foldl (fun cs (x : Value × Nat) => cs.setIfInBounds (off + x.2) x.1) c).toList = c.toList.take off ++ (l ++ c.toList.drop (off + l.length)) := by
  obtain ⟨h1, h2⟩ := Go.Great.foldl_set off l 0 c
  refine List.ext_getElem? fun k => ?_
  rw [Array.getElem?_toList, h2 k]
  have hc : c.toList.length = c.size := Array.length_toList
  have ht : (c.toList.take off).length = off := by simp; omega
  by_cases hk : off ≤ k
  · rw [List.getElem?_append_right (by rw [ht]; exact hk), ht]
    by_cases hk2 : k < off + l.length
    · rw [if_pos (by omega), List.getElem?_append_left (by omega)]
      simp
    · rw [if_neg (by omega), List.getElem?_append_right (by omega), List.getElem?_drop, ← Array.getElem?_toList]
      congr 1
      omega
  · rw [if_neg (by omega), List.getElem?_append_left (by rw [ht]; omega), List.getElem?_take, if_pos (by omega), ← Array.getElem?_toList]
theorem fillS_snd {ρ : Ren} {fs : List (Nat × Nat × Bool × TypeId × Bool)} (g : Operand → SV) (f : Operand → Value) (hg : ∀ x, (g x).Rel ρ (f x)) : ∀ (parts : List (Nat × Operand)) (cs cs' : List SV) (c : Array Value), RelL ρ cs c.toList → fillS fs cs (parts.map fun p => (p.1, g p.2)) = some cs' →
    ∃ c', Instr.fill ((fs.map fun f => (f.1, f.2.1)).toArray[·]?) c (parts.map fun p => (p.1, f p.2)) = some c' ∧ RelL ρ cs' c'.toList
  | [], cs, cs', c, hr, h => by
    simp only [List.map_nil, fillS, Option.some.injEq] at h
    subst h
    exact ⟨c, rfl, hr⟩
  | (i, x) :: r, cs, cs', c, hr, h => by
    simp only [List.map_cons, fillS] at h
    split at h
    next d hd =>
      split at h
      next hb =>
        simp only [Bool.and_eq_true, Nat.beq_eq, Nat.ble_eq] at hb
        obtain ⟨ho, hl, hle⟩ := hb
        obtain ⟨hv, _⟩ := flatV_cells (hg x) ho
        have hvl : (f x).cells.size = d.2.1 := by rw [← hl, hv.length, Array.length_toList]
        have hcl : c.size = cs.length := by rw [hr.length, Array.length_toList]
        have hfold := fold_lsets d.1 (f x).cells.toList c (by rw [Array.length_toList]; omega)
        obtain ⟨c', h1, h2⟩ := fillS_snd g f hg r _ cs' (((f x).cells.toList.zipIdx 0).foldl (fun cs (x : Value × Nat) => cs.setIfInBounds (d.1 + x.2) x.1) c) (by rw [hfold]; exact lsets_rel hr _ hv) h
        refine ⟨c', ?_, h2⟩
        simp only [List.map_cons]
        unfold Instr.fill
        have e : (fs.map fun f => (f.1, f.2.1)).toArray[i]? = some (d.1, d.2.1) := by simp [hd]
        simp only [e]
        rw [if_neg (by simp; omega), ← h1]
        congr 1
        rw [← Array.foldl_toList, Array.toList_zipIdx]
      · cases h
    · cases h

def sized : List (Nat × Nat × Bool × TypeId × Bool) → Bool
  | [] => true
  | c :: l => !Nat.beq c.2.1 0 && sized l
theorem sized_places : ∀ (F : List Field), sized (F.map fun f => (f.offset, szOf P f.type, aggOf P f.type, f.type, f.name != "_")) = true →
    F.mapM (fun f => (P.info? f.type).map fun i => (f.offset, i.size)) = some ((F.map fun f => (f.offset, szOf P f.type, aggOf P f.type, f.type, f.name != "_")).map fun f => (f.1, f.2.1))
  | [], _ => rfl
  | f :: F, h => by
    simp only [List.map_cons, sized, Bool.and_eq_true, Bool.not_eq_true'] at h
    have ih := sized_places F h.2
    have : ∃ i, P.info? f.type = some i ∧ i.size = szOf P f.type := by
      have h0 := h.1
      unfold szOf at h0 ⊢
      split at h0
      next i d hi hd => exact ⟨i, hi, by simp⟩
      · exact absurd h0 (by decide)
    obtain ⟨i, hi, hs⟩ := this
    simp only [List.mapM_cons, hi, Option.map_some, ih, Option.bind_eq_bind, Option.bind_some, Option.pure_def, hs, List.map_cons]

noncomputable def opBuild (ty : TypeId → Option TI) (st : St) (d : Option Nat) (t : TypeId) (ps : List (Nat × SV)) (k : St → Tree) : Tree := match ty t with
  | some ti => (match ti.k with
    | .st fs => if sized fs then (match fillS fs ti.zero ps with
      | some l => ret st d (.agg l) k
      | none => .fail 97) else .fail 98
    | .ar _ s _ => if Nat.beq s 0 then .fail 99 else (match ps with
      | [] => ret st d (.agg ti.zero) k
      | _ => .fail 100)
    | _ => .fail 101)
  | none => .fail 102
theorem tiOf_info {t : TypeId} {i : TI} (h : tiOf P t = some i) : ∃ f z, P.info? t = some f ∧ f.zero = some z ∧ ∀ ρ, RelL ρ i.zero z.cells.toList := by
  obtain ⟨⟨f, z, h1, _, h2, _, h3⟩, _⟩ := tiOf_is h
  exact ⟨f, z, h1, h2, h3⟩
theorem owes_build (hty : ∀ t i, E.ty t = some i → tiOf P t = some i) (t : TypeId) (ps : Array (Nat × Operand)) (h : o.op = .build t ps) :
    OwesV P Q o st (opBuild E.ty st o.dst t (ps.toList.map fun p => (p.1, opnd st.tm p.2))) := by
  intro k hk ρ a H
  have fin : ∀ (l : List SV) (c : Array Value), P.built t (ps.toList.map fun p => (p.1, a.eval p.2)) = some c → RelL ρ l c.toList → (ret st o.dst (.agg l) k).den Q → ∃ (x : SV) (v : Value), (k { st with tm := put st.tm o.dst x }).den Q ∧ SV.Rel ρ x v ∧ ∀ w, (execOp a.eval o).run P w = .ok (.value v) w := by
    intro l c hb hr hk
    refine ⟨_, (.agg c), hk, (by simp only [SV.Rel]; exact ⟨c, rfl, hr⟩), fun w => ?_⟩
    have := run_build (P := P) w t (ps.map fun (i, x) => (i, a.eval x)) c (by rw [← hb, Array.toList_map])
    simp [execOp, h, this]
  unfold opBuild at hk
  split at hk
  next ti hti =>
    obtain ⟨f, z, hf, hz, hzr⟩ := tiOf_info (hty _ _ hti)
    split at hk
    next fs hfs =>
      split at hk
      next hsz =>
        split at hk
        next l hl =>
          obtain ⟨F, hF, rfl⟩ := tiOf_st (hty _ _ hti) hfs
          obtain ⟨c', h1, h2⟩ := fillS_snd (ρ := ρ) (opnd st.tm) a.eval (fun x => opnd_rel H x) ps.toList ti.zero l z.cells (hzr ρ) hl
          refine fin l c' ?_ h2 hk
          unfold Program.built
          simp only [hf, hF, hz, sized_places F.toList hsz]
          exact h1
        · exact hk.elim
      · exact hk.elim
    next n s e hs =>
      split at hk
      · exact hk.elim
      next h0 =>
        split at hk
        next he =>
          obtain ⟨hu, hes⟩ := tiOf_ar (hty _ _ hti) hs
          have hps : ps.toList = [] := List.map_eq_nil_iff.1 he
          refine fin ti.zero z.cells ?_ (hzr ρ) hk
          rw [hps]
          have : ∃ i, P.info? e = some i := by
            have h1 : szOf P e ≠ 0 := fun e' => h0 (by simp only [← hes, e', Nat.beq_refl])
            unfold szOf at h1
            split at h1
            next i d hi hd => exact ⟨i, hi⟩
            · exact absurd rfl h1
          obtain ⟨i, hi⟩ := this
          unfold Program.built
          simp only [hf, hu, hz, hi, List.map_nil, Instr.fill]
        · exact hk.elim
    · exact hk.elim
  · exact hk.elim

/-- a part of a value -/
noncomputable def opPart (ty : TypeId → Option TI) (st : St) (d : Option Nat) (t : TypeId) (x : SV) (f : Nat) (k : St → Tree) : Tree := match x with
  | .agg l => (match ty t with
    | some i => (match i.k with
      | .st fs => (match fs[f]? with
        | some c => if Nat.beq c.2.1 0 then .fail 103 else if Nat.ble (c.1 + c.2.1) l.length then ret st d (if c.2.2.1 then .agg ((l.drop c.1).take c.2.1) else lget l c.1) k else .fail 104
        | none => .fail 105)
      | _ => .fail 106)
    | none => .fail 107)
  | _ => .fail 108
theorem owes_part (hty : ∀ t i, E.ty t = some i → tiOf P t = some i) (t : TypeId) (x : Operand) (f : Nat) (h : o.op = .field t x f) : OwesV P Q o st (opPart E.ty st o.dst t (opnd st.tm x) f) := by
  intro k hk ρ a H
  have hx := opnd_rel H x
  unfold opPart at hk
  split at hk
  next l e =>
    rw [e] at hx
    simp only [SV.Rel] at hx
    obtain ⟨cs, hc, hr⟩ := hx
    split at hk
    next i hi =>
      split at hk
      next fs hfs =>
        split at hk
        next c hcf =>
          split at hk
          · exact hk.elim
          next h0 =>
            split at hk
            next hle =>
              obtain ⟨F, hF, rfl⟩ := tiOf_st (hty _ _ hi) hfs
              rw [List.getElem?_map, Option.map_eq_some_iff] at hcf
              obtain ⟨fd, hfd, rfl⟩ := hcf
              have h0' : szOf P fd.type ≠ 0 := fun e => h0 (by simp only [e, Nat.beq_refl])
              obtain ⟨hs, du, hdu⟩ : (∀ w, (sizeOf fd.type).run P w = .ok (szOf P fd.type) w) ∧ ∃ d, P.underlying fd.type = some d := ⟨fun w => (szOf_run rfl h0' w).1, (szOf_run rfl h0' default).2⟩
              have hfd' : F[f]? = some fd := by rw [← Array.getElem?_toList]; exact hfd
              have hag : aggOf P fd.type = isAggD du := by simp only [aggOf, hdu]
              have hle' := Nat.le_of_ble_eq_true hle
              simp only at hle' hk
              have hlen := hr.length
              cases hA : isAggD du with
              | true =>
                rw [hag, hA, if_pos rfl] at hk
                refine ⟨_, .agg (cs.extract fd.offset (fd.offset + szOf P fd.type)), hk, ?_, fun w => ?_⟩
                · simp only [SV.Rel]
                  refine ⟨_, rfl, ?_⟩
                  have e1 : (cs.extract fd.offset (fd.offset + szOf P fd.type)).toList = (cs.toList.drop fd.offset).take (szOf P fd.type) := by
                    rw [Array.toList_extract, List.extract_eq_take_drop]; congr 1; omega
                  rw [e1]
                  exact (hr.drop _).take _
                · simp [execOp, h, Instr.field, run_underlying hF, hfd', hc, asAgg, part, isAgg_run hdu, hA, hs]
              | false =>
                rw [hag, hA, if_neg (by simp)] at hk
                obtain ⟨v, hv, hvr⟩ := hr.get? (i := fd.offset) (by omega)
                have hv' : cs[fd.offset]? = some v := by rw [← Array.getElem?_toList]; exact hv
                refine ⟨_, v, hk, hvr, fun w => ?_⟩
                simp [execOp, h, Instr.field, run_underlying hF, hfd', hc, asAgg, part, isAgg_run hdu, hA, hv']
            · exact hk.elim
        · exact hk.elim
      · exact hk.elim
    · exact hk.elim
  · exact hk.elim
end
end SX
end Go.Proofs.YtnjaaagiindclaaGreatDoor

/-
  SX: calls. No program in sight.
-/
namespace Go.Proofs.YtnjaaagiindclaaGreatDoor
open Go.RowKit Go.Deep
namespace SX

/-- a function's contract as a tree: arguments, heap, next number; what follows, of a value that is returned (true) or thrown (false) -/
abbrev Spec := List SV → Heap → Nat → (Bool → SV → Heap → Nat → Tree) → Tree
def Ended (b : Bool) (v : Value) : Ending := if b then .returned v else .panicked [{ v, recovered := false }]
structure SpecEnters (P : Program) (𝔅 : BigRep) (f : FuncId) (sp : Spec) : Prop where
  enter : ∀ w args, (callFunc f args).run P w = .ok (.enter f args) w
  calls : ∀ (C : Ctx) (Q : Ex → St → Prop) (args : List SV) (h : Heap) (n : Nat) (K : Bool → SV → Heap → Nat → Tree), C.B = 𝔅 → (sp args h n K).den Q →
    ∀ (ρ : Ren) (w : World) (vs : Array Value), RelL ρ args vs.toList → Holds C ρ h w → ρ.bd n →
      Calls P f vs w fun e w' => ∃ b v x h' n' ρ', e = Ended b v ∧ SV.Rel ρ' x v ∧ Holds C ρ' h' w' ∧ ρ.le ρ' ∧ ρ'.bd n' ∧ (K b x h' n').den Q
/-- one that the model stands in for: a value at once -/
def SpecAtOnce (P : Program) (f : FuncId) (sp : Spec) : Prop :=
  ∀ (Q : Ex → St → Prop) (args : List SV) (h : Heap) (n : Nat) (K : Bool → SV → Heap → Nat → Tree), (sp args h n K).den Q →
    ∀ (ρ : Ren) (w : World) (vs : Array Value), RelL ρ args vs.toList → ∃ v x, (callFunc f vs).run P w = .ok (.value v) w ∧ SV.Rel ρ x v ∧ (K true x h n).den Q
def SpecOk (P : Program) (𝔅 : BigRep) (f : FuncId) (sp : Spec) : Prop := SpecEnters P 𝔅 f sp ∨ SpecAtOnce P f sp

section
variable {P : Program} {C : Ctx} {ρ0 : Ren} {Q : Ex → St → Prop} {o : Oper} {st : St} {E : Env}

noncomputable def opCall (spec : FuncId → Option Spec) (st : St) (d : Option Nat) (f : SV) (args : List SV) (k : St → Tree) (kp : SV → St → Tree) : Tree := match f with
  | .fn f cap => (if Nat.blt f 1048576 then (match spec f with
    | some sp => sp (args ++ cap) st.hp st.nx (fun b v h n => if b then k { st with tm := put st.tm d v, hp := h, nx := n } else kp v { st with hp := h, nx := n })
    | none => .fail (1000 + f)) else (match spec (f - 1048576) with
    | some sp => sp (cap ++ args) st.hp st.nx (fun b v h n => if b then k { st with tm := put st.tm d v, hp := h, nx := n } else kp v { st with hp := h, nx := n })
    | none => .fail (1000 + f)))
  | _ => .fail 212
theorem owes_call (hsp : ∀ f sp, E.spec f = some sp → SpecOk P C.B f sp) (c : Call) (f : Operand) (h : o.op = .call c) (hc : c.callee = .value f) :
    Owes P C ρ0 Q o st (opCall E.spec st o.dst (opnd st.tm f) (c.args.toList.map (opnd st.tm))) := by
  intro k kp hk ρ a w H next Qx hn hp
  have hf := opnd_rel H.tm f
  unfold opCall at hk
  split at hk
  next g cap e =>
    rw [e] at hf
    simp only [SV.Rel] at hf
    obtain ⟨cs, hfv, hcap⟩ := hf
    split at hk
    next hb =>
      rw [fnV_lo hb] at hfv
      split at hk
      next sp hs =>
        have hargs : RelL ρ (c.args.toList.map (opnd st.tm) ++ cap) (c.args.map a.eval ++ cs).toList := by
          rw [Array.toList_append, Array.toList_map]
          exact (opnds_rel H.tm _).append hcap
        rcases hsp _ _ hs with hok | hok
        · have hrun : (execOp a.eval o).run P w = .ok (.enter g (c.args.map a.eval ++ cs)) w := by
            simp [execOp, h, resolve, hc, hfv, Deferred.ofValue, invoke, hok.enter]
          unfold Oper.wp
          rw [hrun]
          show Calls P g _ w _
          refine Calls.mono (hok.calls C Q _ _ _ _ rfl hk ρ w (c.args.map a.eval ++ cs) hargs H.hp H.bd) ?_
          rintro e w' ⟨b, v, x, h', n', ρ', rfl, hv, hH, hle, hbd, hk⟩
          have H' : HS C ρ0 ρ' { st with hp := h', nx := n' } a w' := ⟨hH, RelS.mono hle H.tm, H.df.mono hle, hbd, H.le.trans hle⟩
          cases b with
          | true => exact hn _ ρ' _ _ (put_ag _ _ _) (H'.put o.dst hv) hk
          | false => exact hp x v { st with hp := h', nx := n' } ρ' _ _ (.refl _ _) hv H' hk
        · obtain ⟨v, x, hcall, hv, hk⟩ := hok Q _ _ _ _ hk ρ w (c.args.map a.eval ++ cs) hargs
          exact wp_value (v := v) (w' := w) (by simp [execOp, h, resolve, hc, hfv, Deferred.ofValue, invoke, hcall]) (hn _ ρ _ _ (put_ag _ _ _) (H.put o.dst hv) hk)
      · exact hk.elim
    next hb =>
      rw [fnV_hi hb] at hfv
      split at hk
      next sp hs =>
        have hargs : RelL ρ (cap ++ c.args.toList.map (opnd st.tm)) (cs ++ c.args.map a.eval).toList := by
          rw [Array.toList_append, Array.toList_map]
          exact hcap.append (opnds_rel H.tm _)
        rcases hsp _ _ hs with hok | hok
        · have hrun : (execOp a.eval o).run P w = .ok (.enter (g - 1048576) (cs ++ c.args.map a.eval)) w := by
            simp [execOp, h, resolve, hc, hfv, Deferred.ofValue, invoke, hok.enter]
          unfold Oper.wp
          rw [hrun]
          show Calls P (g - 1048576) _ w _
          refine Calls.mono (hok.calls C Q _ _ _ _ rfl hk ρ w (cs ++ c.args.map a.eval) hargs H.hp H.bd) ?_
          rintro e w' ⟨b, v, x, h', n', ρ', rfl, hv, hH, hle, hbd, hk⟩
          have H' : HS C ρ0 ρ' { st with hp := h', nx := n' } a w' := ⟨hH, RelS.mono hle H.tm, H.df.mono hle, hbd, H.le.trans hle⟩
          cases b with
          | true => exact hn _ ρ' _ _ (put_ag _ _ _) (H'.put o.dst hv) hk
          | false => exact hp x v { st with hp := h', nx := n' } ρ' _ _ (.refl _ _) hv H' hk
        · obtain ⟨v, x, hcall, hv, hk⟩ := hok Q _ _ _ _ hk ρ w (cs ++ c.args.map a.eval) hargs
          exact wp_value (v := v) (w' := w) (by simp [execOp, h, resolve, hc, hfv, Deferred.ofValue, invoke, hcall]) (hn _ ρ _ _ (put_ag _ _ _) (H.put o.dst hv) hk)
      · exact hk.elim
  · exact hk.elim

/-! what is built in, of numbers and lengths -/
noncomputable def opLen (ty : TypeId → Option TI) (st : St) (d : Option Nat) (t : TypeId) (x : SV) (k : St → Tree) : Tree := match ty t with
  | some ti => (match ti.k with
    | .sli _ _ => (match x with
      | .sl lit _ _ _ len _ => ret st d (numV lit .i64 (len : Int)) k
      | .ns => ret st d (.l .i64 0) k
      | _ => .fail 213)
    | .str => (match x with
      | .t l => ret st d (.l .i64 (l.length : Int)) k
      | .s b => ret st d (.i .i64 (b.size : Int)) k
      | _ => .fail 313)
    | .pt e => (match ty e with
      | some te => (match te.k with
        | .ar n _ _ => ret st d (.l .i64 (n : Int)) k
        | _ => .fail 314)
      | none => .fail 315)
    | .ar n _ _ => ret st d (.l .i64 (n : Int)) k
    | _ => .fail 214)
  | none => .fail 215
theorem owes_len (hty : ∀ t i, E.ty t = some i → tiOf P t = some i) (c : Call) (t : TypeId) (x : Operand) (h : o.op = .call c) (hc : c.callee = .builtin .len) (ha : c.args = #[x]) (ht : c.argTypes = #[t]) :
    OwesV P Q o st (opLen E.ty st o.dst t (opnd st.tm x)) := by
  intro k hk ρ a H
  have hx := opnd_rel H x
  unfold opLen at hk
  split at hk
  next ti hti =>
    split at hk
    next e s hs =>
      have hu := (tiOf_sli (hty _ _ hti) hs).1
      have hr : ∀ b n c', a.eval x = .slice b n c' → ∀ w, (execOp a.eval o).run P w = .ok (.value (.int .i64 n)) w := fun b n c' he w => by
        simp [execOp, h, resolve, hc, ha, ht, he, invoke, builtin, Builtin.len_, run_underlying hu, goInt]
      split at hk
      next e =>
        rw [e] at hx
        simp only [SV.Rel] at hx
        obtain ⟨b, _, he, _⟩ := hx
        exact ⟨_, _, hk, numV_rel ρ _ _ _, fun w => hr _ _ _ he w⟩
      next e =>
        rw [e] at hx
        simp only [SV.Rel] at hx
        exact ⟨_, _, hk, (by simp [SV.Rel]), fun w => hr _ _ _ hx w⟩
      · exact hk.elim
    next hs =>
      have hu := tiOf_str (hty _ _ hti) hs
      split at hk
      next l e =>
        rw [e] at hx
        simp only [SV.Rel] at hx
        have hsz : (bytesOf l).size = l.length := by simp [bytesOf, ByteArray.size]
        exact ⟨_, .int .i64 (l.length : Int), hk, (by simp only [SV.Rel]), fun w => by rw [← hsz]; simp [execOp, h, resolve, hc, ha, ht, hx, invoke, builtin, Builtin.len_, run_underlying hu, goInt]⟩
      next b e =>
        rw [e] at hx
        simp only [SV.Rel] at hx
        exact ⟨_, .int .i64 (b.size : Int), hk, (by simp only [SV.Rel]), fun w => by simp [execOp, h, resolve, hc, ha, ht, hx, invoke, builtin, Builtin.len_, run_underlying hu, goInt]⟩
      · exact hk.elim
    next e hs =>
      have hu := tiOf_pt (hty _ _ hti) hs
      split at hk
      next te hte =>
        split at hk
        next n s el hs' =>
          have hu' := (tiOf_ar (hty _ _ hte) hs').1
          exact ⟨_, .int .i64 (n : Int), hk, (by simp only [SV.Rel]), fun w => by cases hxx : a.eval x <;> simp [execOp, h, resolve, hc, ha, ht, hxx, invoke, builtin, Builtin.len_, run_underlying hu, run_underlying hu', goInt]⟩
        · exact hk.elim
      · exact hk.elim
    next n s el hs =>
      have hu := (tiOf_ar (hty _ _ hti) hs).1
      exact ⟨_, .int .i64 (n : Int), hk, (by simp only [SV.Rel]), fun w => by cases hxx : a.eval x <;> simp [execOp, h, resolve, hc, ha, ht, hxx, invoke, builtin, Builtin.len_, run_underlying hu, goInt]⟩
    · exact hk.elim
  · exact hk.elim

noncomputable def opMin (mx : Bool) (st : St) (d : Option Nat) (x y : SV) (k : St → Tree) : Tree := match numOf x with
  | some (kx, m) => (match numOf y with
    | some (_, n) => ret st d (numV (lits x y) kx (if mx then (if n > m then n else m) else (if n < m then n else m))) k
    | none => .fail 216)
  | none => .fail 217
theorem owes_min (mx : Bool) (c : Call) (x y : Operand) (h : o.op = .call c) (hc : c.callee = .builtin (if mx then .max else .min)) (ha : c.args = #[x, y]) : OwesV P Q o st (opMin mx st o.dst (opnd st.tm x) (opnd st.tm y)) := by
  intro k hk ρ a H
  have hx := opnd_rel H x
  have hy := opnd_rel H y
  unfold opMin at hk
  split at hk
  next kx m e =>
    have hxv := numOf_rel e hx
    split at hk
    next ky n e =>
      have hyv := numOf_rel e hy
      refine ⟨_, (.int kx (if mx then (if n > m then n else m) else (if n < m then n else m))), hk, (numV_rel ρ _ _ _), fun w => ?_⟩
      cases mx
      · simp only [Bool.false_eq_true, if_false] at hc ⊢
        simp [execOp, h, resolve, hc, ha, hxv, hyv, invoke, builtin, Builtin.min_, Builtin.min2]
      · simp only [if_true] at hc ⊢
        simp [execOp, h, resolve, hc, ha, hxv, hyv, invoke, builtin, Builtin.max_, Builtin.max2]
    · exact hk.elim
  · exact hk.elim
end
end SX
end Go.Proofs.YtnjaaagiindclaaGreatDoor
