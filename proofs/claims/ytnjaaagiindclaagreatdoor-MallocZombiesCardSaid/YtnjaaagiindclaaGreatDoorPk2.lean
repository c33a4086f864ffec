/-
  Part 2 of what the statement leans on: Sx, Sx2.
-/
import Derived.Test.YtnjaaagiindclaaGreatDoorPk1
/-
  SX: a symbolic executor. Values with closed block numbers and open whole numbers; a heap of such values; code becomes a tree of what is to be shown. No program in sight.
-/
namespace Go.Proofs.YtnjaaagiindclaaGreatDoor
namespace SX

/-- where in a block: a cell, or a cell of the i-th element of a row -/
inductive Off
  | c (o : Nat)
  | r (sz i o : Nat)
def Off.n : Off → Nat
  | .c o => o
  | .r sz i o => i * sz + o
def Off.add : Off → Nat → Off
  | .c o, k => .c (o + k)
  | .r sz i o, k => .r sz i (o + k)
theorem Off.n_add (o : Off) (k : Nat) : (o.add k).n = o.n + k := by cases o <;> simp [Off.add, Off.n, Nat.add_assoc]

/-- which block a number stands for -/
abbrev Ren := Nat → Option Nat
def Ren.le (ρ ρ' : Ren) : Prop := ∀ b g, ρ b = some g → ρ' b = some g
theorem Ren.le.refl (ρ : Ren) : ρ.le ρ := fun _ _ h => h
theorem Ren.le.trans {a b c : Ren} (h : a.le b) (k : b.le c) : a.le c := fun x g e => k x g (h x g e)
/-- numbers from n on stand for nothing -/
def Ren.bd (ρ : Ren) (n : Nat) : Prop := ∀ b, n ≤ b → ρ b = none
theorem Ren.bd.mono {ρ : Ren} {m n : Nat} (h : ρ.bd m) (k : m ≤ n) : ρ.bd n := fun b hb => h b (Nat.le_trans k hb)
theorem Ren.bd.lt {ρ : Ren} {n b g : Nat} (h : ρ.bd n) (e : ρ b = some g) : b < n := by
  rcases Nat.lt_or_ge b n with h1 | h1
  · exact h1
  · rw [h b h1] at e; cases e

/-- how much room a row has: a known number, a number, what a number of the renaming stands for less some -/
inductive Cap
  | c (n : Nat) | v (n : Nat) | o (id less : Nat)
  | zr                                   -- none; yet where it stands is known
def Cap.Is (ρ : Ren) : Cap → Nat → Prop
  | .c n, z => z = n
  | .v n, z => z = n
  | .o i m, z => ∃ y, ρ i = some y ∧ z = y - m
  | .zr, z => z = 0
/-- none, and known where -/
def Cap.zz : Cap → Prop
  | .zr => True
  | _ => False
theorem Cap.Is.mono {ρ ρ' : Ren} (h : ρ.le ρ') {c : Cap} {z : Nat} (r : c.Is ρ z) : c.Is ρ' z := by
  cases c with
  | c n => exact r
  | v n => exact r
  | o i m => obtain ⟨y, e, r⟩ := r; exact ⟨y, h _ _ e, r⟩
  | zr => exact r
theorem Cap.Is.carry {ρ0 ρ ρ' : Ren} {n : Nat} (h0 : ρ0.bd n) (h : ∀ b, b < n → ρ' b = ρ b) {c : Cap} {u z : Nat} (q : c.Is ρ0 u) (r : c.Is ρ z) : c.Is ρ' z := by
  cases c with
  | c n => exact r
  | v n => exact r
  | o i m => obtain ⟨y, e, _⟩ := q; obtain ⟨y', e', r⟩ := r; exact ⟨y', by rw [h i (h0.lt e)]; exact e', r⟩
  | zr => exact r
theorem Cap.Is.uniq {ρ : Ren} {c : Cap} {y z : Nat} (q : c.Is ρ y) (r : c.Is ρ z) : y = z := by
  cases c with
  | c n => exact Eq.trans q (Eq.symm r)
  | v n => exact Eq.trans q (Eq.symm r)
  | o i m => obtain ⟨y, e, rfl⟩ := q; obtain ⟨y', e', rfl⟩ := r; rw [e] at e'; cases e'; rfl
  | zr => exact Eq.trans q (Eq.symm r)
def Cap.sub : Cap → Nat → Cap
  | .c n, k => .c (n - k)
  | .v n, k => .v (n - k)
  | .o i m, k => .o i (m + k)
  | .zr, _ => .c 0
theorem Cap.sub_zz {c : Cap} {k : Nat} (h : (c.sub k).zz) : False := by cases c <;> exact h.elim
theorem Cap.Is.sub {ρ : Ren} {c : Cap} {z : Nat} (r : c.Is ρ z) (k : Nat) : (c.sub k).Is ρ (z - k) := by
  cases c with
  | c n => exact congrArg (· - k) r
  | v n => exact congrArg (· - k) r
  | o i m => obtain ⟨y, e, rfl⟩ := r; exact ⟨y, e, by omega⟩
  | zr => rw [show z = 0 from r]; exact Nat.zero_sub k
def Cap.posP : Cap → Prop
  | .c n => 0 < n
  | .v n => 0 < n
  | .o _ _ => False
  | .zr => False
theorem Cap.posP_is {ρ : Ren} {c : Cap} {z : Nat} (h : c.posP) (r : c.Is ρ z) : 0 < z := by
  cases c with
  | c n => rw [show z = n from r]; exact h
  | v n => rw [show z = n from r]; exact h
  | o i m => exact h.elim
  | zr => exact h.elim
/-- has it a block? -/
def Cap.hasB : Cap → Prop
  | .c n => 0 < n
  | .v n => 0 < n
  | .o _ _ => True
  | .zr => True
theorem Cap.hasB_of {ρ : Ren} {c : Cap} {z : Nat} (r : c.Is ρ z) (h : 0 < z) : c.hasB := by
  cases c with
  | c n => rw [show z = n from r] at h; exact h
  | v n => rw [show z = n from r] at h; exact h
  | o i m => trivial
  | zr => trivial
theorem Cap.hasB_sub {c : Cap} {k : Nat} (h : (c.sub k).hasB) : c.hasB := by
  cases c with
  | c n => exact Nat.lt_of_lt_of_le h (Nat.sub_le _ _)
  | v n => exact Nat.lt_of_lt_of_le h (Nat.sub_le _ _)
  | o i m => trivial
  | zr => trivial
theorem slB {ρ : Ren} {c : Cap} {z b : Nat} {a : Option Addr} {f : Nat → Addr} (r : c.Is ρ z) (h : c.hasB → ∃ g, ρ b = some g ∧ (0 < z ∨ c.zz → a = some (f g))) (hz : 0 < z) : ∃ g, ρ b = some g ∧ a = some (f g) := by
  obtain ⟨g, e, h⟩ := h (Cap.hasB_of r hz)
  exact ⟨g, e, h (.inl hz)⟩
def Cap.leP (h : Int) : Cap → Prop
  | .c n => h ≤ (n : Int)
  | .v n => h ≤ (n : Int)
  | .o _ _ => False
  | .zr => h ≤ 0
theorem Cap.leP_is {ρ : Ren} {c : Cap} {z : Nat} {n : Int} (h : c.leP n) (r : c.Is ρ z) : n ≤ (z : Int) := by
  cases c with
  | c m => rw [show z = m from r]; exact h
  | v m => rw [show z = m from r]; exact h
  | o i m => exact h.elim
  | zr => rw [show z = 0 from r]; exact h

def isZ : Cap → Bool
  | .zr => true
  | _ => false
theorem isZ_zz {c : Cap} (h : isZ c = true) : c.zz := by cases c <;> first | trivial | cases h
theorem isZ_hasB {c : Cap} (h : isZ c = true) : c.hasB := by cases c <;> first | trivial | cases h

inductive SV
  | tt | ff
  | b (x : Bool)
  | l (k : IntKind) (n : Int)            -- a known number
  | i (k : IntKind) (n : Int)
  | f (k : FloatKind) (x : Nat)
  | s (x : ByteArray)
  | t (x : List UInt8)                   -- a known string
  | p (blk : Nat) (o : Off)
  | rp (g : Nat) (o : Off)               -- an actual block
  | np
  | sl (lit : Bool) (blk sz frm len : Nat) (cap : Cap)   -- lit: where it begins and how long it is is known
  | ns
  | m (blk : Nat)
  | nu (blk : Nat)
  | nm
  | fn (f : FuncId) (cap : List SV)
  | nf
  | ifc (t : TypeId) (v : SV)
  | ni
  | agg (l : List SV)
  | tup (l : List SV)
  | v (x : Value)                        -- a value as it is
  | junk
  | none_                               -- an operation that was not carried out

/-- a function with what it holds: captured variables; or, from 2^20 on, a method with its receiver -/
def fnV (f : FuncId) (cs : Array Value) : Value := if Nat.blt f 1048576 then .func (.func f) #[] cs else .func (.func (f - 1048576)) cs #[]
theorem fnV_lo {f : FuncId} {cs : Array Value} (h : Nat.blt f 1048576 = true) : fnV f cs = .func (.func f) #[] cs := if_pos h
theorem fnV_hi {f : FuncId} {cs : Array Value} (h : ¬ Nat.blt f 1048576 = true) : fnV f cs = .func (.func (f - 1048576)) cs #[] := if_neg h
theorem fnV_is (f : FuncId) (cs : Array Value) : ∃ x y z, fnV f cs = .func (.func x) y z := by
  unfold fnV
  split
  · exact ⟨_, _, _, rfl⟩
  · exact ⟨_, _, _, rfl⟩
theorem fnV_meth (f : FuncId) (cs : Array Value) : fnV (f + 1048576) cs = .func (.func f) cs #[] := by
  have h : ¬ Nat.blt (f + 1048576) 1048576 = true := by simp [Nat.blt_eq]
  rw [fnV_hi h, Nat.add_sub_cancel]
def bytesOf (l : List UInt8) : ByteArray := ⟨l.toArray⟩

/-! what a value stands for, where ρ tells the blocks -/
mutual
def SV.Rel (ρ : Ren) : SV → Value → Prop
  | .tt, v => v = .bool true
  | .ff, v => v = .bool false
  | .b x, v => v = .bool x
  | .l k n, v => v = .int k n
  | .i k n, v => v = .int k n
  | .f k n, v => v = .float k n
  | .s x, v => v = .string x
  | .t x, v => v = .string (bytesOf x)
  | .p b o, v => ∃ g, ρ b = some g ∧ v = .pointer (some ⟨g, o.n, none⟩)
  | .rp g o, v => v = .pointer (some ⟨g, o.n, none⟩)
  | .np, v => v = .pointer none
  | .sl _ b sz frm len cap, v => ∃ a c, v = .slice a len c ∧ cap.Is ρ c ∧ len ≤ c ∧ (cap.hasB → ∃ g, ρ b = some g ∧ (0 < c ∨ cap.zz → a = some ⟨g, frm * sz, none⟩))
  | .ns, v => v = .slice none 0 0
  | .m b, v => ∃ g, ρ b = some g ∧ v = .map (some g)
  | .nu b, v => ∃ g, ρ b = some g ∧ v = .int .u64 (g : Nat)
  | .nm, v => v = .map none
  | .fn f cap, v => ∃ cs, v = fnV f cs ∧ RelL ρ cap cs.toList
  | .nf, v => v = .nilFunc
  | .ifc t x, v => ∃ y, v = .iface t y ∧ SV.Rel ρ x y
  | .ni, v => v = .nilIface
  | .agg l, v => ∃ cs, v = .agg cs ∧ RelL ρ l cs.toList
  | .tup l, v => ∃ cs, v = .tuple cs ∧ RelL ρ l cs.toList
  | .v x, v => v = x
  | .junk, _ => True
  | .none_, v => v = undef
def RelL (ρ : Ren) : List SV → List Value → Prop
  | [], vs => vs = []
  | x :: l, vs => ∃ v r, vs = v :: r ∧ SV.Rel ρ x v ∧ RelL ρ l r
end

mutual
theorem SV.Rel.mono {ρ ρ' : Ren} (h : ρ.le ρ') : ∀ (x : SV) (v : Value), x.Rel ρ v → x.Rel ρ' v
  | .tt, _, r | .ff, _, r | .b _, _, r | .l _ _, _, r | .i _ _, _, r | .f _ _, _, r | .s _, _, r | .t _, _, r | .rp _ _, _, r | .np, _, r | .ns, _, r | .nm, _, r | .nf, _, r | .ni, _, r | .v _, _, r | .none_, _, r => by
    simp only [SV.Rel] at r ⊢; exact r
  | .p b o, v, r => by
    simp only [SV.Rel] at r ⊢
    obtain ⟨g, e, r⟩ := r
    exact ⟨g, h _ _ e, r⟩
  | .sl lit b sz frm len cap, v, r => by
    simp only [SV.Rel] at r ⊢
    obtain ⟨a, c, e, hi, hl, r⟩ := r
    exact ⟨a, c, e, hi.mono h, hl, fun hc => by obtain ⟨g, e, r⟩ := r hc; exact ⟨g, h _ _ e, r⟩⟩
  | .m b, v, r => by
    simp only [SV.Rel] at r ⊢
    obtain ⟨g, e, r⟩ := r
    exact ⟨g, h _ _ e, r⟩
  | .nu b, v, r => by
    simp only [SV.Rel] at r ⊢
    obtain ⟨g, e, r⟩ := r
    exact ⟨g, h _ _ e, r⟩
  | .fn f cap, v, r => by
    simp only [SV.Rel] at r ⊢
    obtain ⟨cs, e, r⟩ := r
    exact ⟨cs, e, RelL.mono h cap cs.toList r⟩
  | .ifc t x, v, r => by
    simp only [SV.Rel] at r ⊢
    obtain ⟨y, e, r⟩ := r
    exact ⟨y, e, SV.Rel.mono h x y r⟩
  | .agg l, v, r => by
    simp only [SV.Rel] at r ⊢
    obtain ⟨cs, e, r⟩ := r
    exact ⟨cs, e, RelL.mono h l cs.toList r⟩
  | .tup l, v, r => by
    simp only [SV.Rel] at r ⊢
    obtain ⟨cs, e, r⟩ := r
    exact ⟨cs, e, RelL.mono h l cs.toList r⟩
  | .junk, _, _ => by simp only [SV.Rel]
theorem RelL.mono {ρ ρ' : Ren} (h : ρ.le ρ') : ∀ (l : List SV) (vs : List Value), RelL ρ l vs → RelL ρ' l vs
  | [], _, r => by simp only [RelL] at r ⊢; exact r
  | x :: l, vs, r => by
    simp only [RelL] at r ⊢
    obtain ⟨v, q, e, r1, r2⟩ := r
    exact ⟨v, q, e, SV.Rel.mono h x v r1, RelL.mono h l q r2⟩
end

/-! what has had a meaning below n has the same one wherever the numbers below n have -/
mutual
theorem SV.Rel.carry {ρ0 ρ ρ' : Ren} {n : Nat} (h0 : ρ0.bd n) (h : ∀ b, b < n → ρ' b = ρ b) : ∀ (x : SV) (u v : Value), x.Rel ρ0 u → x.Rel ρ v → x.Rel ρ' v
  | .tt, _, _, _, r | .ff, _, _, _, r | .b _, _, _, _, r | .l _ _, _, _, _, r | .i _ _, _, _, _, r | .f _ _, _, _, _, r | .s _, _, _, _, r | .t _, _, _, _, r | .rp _ _, _, _, _, r | .np, _, _, _, r | .ns, _, _, _, r | .nm, _, _, _, r | .nf, _, _, _, r | .ni, _, _, _, r | .v _, _, _, _, r | .none_, _, _, _, r => by
    simp only [SV.Rel] at r ⊢; exact r
  | .p b o, u, v, q, r => by
    simp only [SV.Rel] at q r ⊢
    obtain ⟨g, e, _⟩ := q
    rw [h b (h0.lt e)]; exact r
  | .sl lit b sz frm len cap, u, v, q, r => by
    simp only [SV.Rel] at q r ⊢
    obtain ⟨a, c, _, hi, _, q⟩ := q
    obtain ⟨a', c', e', hi', hl', r⟩ := r
    exact ⟨a', c', e', hi.carry h0 h hi', hl', fun hc => by obtain ⟨g, e, _⟩ := q hc; rw [h b (h0.lt e)]; exact r hc⟩
  | .m b, u, v, q, r => by
    simp only [SV.Rel] at q r ⊢
    obtain ⟨g, e, _⟩ := q
    rw [h b (h0.lt e)]; exact r
  | .nu b, u, v, q, r => by
    simp only [SV.Rel] at q r ⊢
    obtain ⟨g, e, _⟩ := q
    rw [h b (h0.lt e)]; exact r
  | .fn f cap, u, v, q, r => by
    simp only [SV.Rel] at q r ⊢
    obtain ⟨_, _, q⟩ := q
    obtain ⟨cs, e, r⟩ := r
    exact ⟨cs, e, RelL.carry h0 h cap _ cs.toList q r⟩
  | .ifc t x, u, v, q, r => by
    simp only [SV.Rel] at q r ⊢
    obtain ⟨_, _, q⟩ := q
    obtain ⟨y, e, r⟩ := r
    exact ⟨y, e, SV.Rel.carry h0 h x _ y q r⟩
  | .agg l, u, v, q, r => by
    simp only [SV.Rel] at q r ⊢
    obtain ⟨_, _, q⟩ := q
    obtain ⟨cs, e, r⟩ := r
    exact ⟨cs, e, RelL.carry h0 h l _ cs.toList q r⟩
  | .tup l, u, v, q, r => by
    simp only [SV.Rel] at q r ⊢
    obtain ⟨_, _, q⟩ := q
    obtain ⟨cs, e, r⟩ := r
    exact ⟨cs, e, RelL.carry h0 h l _ cs.toList q r⟩
  | .junk, _, _, _, _ => by simp only [SV.Rel]
theorem RelL.carry {ρ0 ρ ρ' : Ren} {n : Nat} (h0 : ρ0.bd n) (h : ∀ b, b < n → ρ' b = ρ b) : ∀ (l : List SV) (us vs : List Value), RelL ρ0 l us → RelL ρ l vs → RelL ρ' l vs
  | [], _, _, _, r => by simp only [RelL] at r ⊢; exact r
  | x :: l, us, vs, q, r => by
    simp only [RelL] at q r ⊢
    obtain ⟨_, _, _, q1, q2⟩ := q
    obtain ⟨v, p, e, r1, r2⟩ := r
    exact ⟨v, p, e, SV.Rel.carry h0 h x _ v q1 r1, RelL.carry h0 h l _ p q2 r2⟩
end

noncomputable def lset (l : List SV) : Nat → SV → List SV :=
  List.rec (motive := fun _ => Nat → SV → List SV) (fun _ _ => []) (fun x l ih n v => Nat.rec (motive := fun _ => List SV) (v :: l) (fun m _ => x :: ih m v) n) l
noncomputable def lget (l : List SV) : Nat → SV :=
  List.rec (motive := fun _ => Nat → SV) (fun _ => .junk) (fun x _ ih n => Nat.rec (motive := fun _ => SV) x (fun m _ => ih m) n) l
theorem lset_nil (n : Nat) (v : SV) : lset [] n v = [] := rfl
theorem lset_zero (x : SV) (l : List SV) (v : SV) : lset (x :: l) 0 v = v :: l := rfl
theorem lset_succ (x : SV) (l : List SV) (n : Nat) (v : SV) : lset (x :: l) (n + 1) v = x :: lset l n v := rfl
theorem lget_nil (n : Nat) : lget [] n = .junk := rfl
theorem lget_zero (x : SV) (l : List SV) : lget (x :: l) 0 = x := rfl
theorem lget_succ (x : SV) (l : List SV) (n : Nat) : lget (x :: l) (n + 1) = lget l n := rfl

section
variable {ρ : Ren}
theorem RelL.nil : RelL ρ [] [] := by simp only [RelL]
theorem RelL.cons {x : SV} {v : Value} {l : List SV} {vs : List Value} (h : x.Rel ρ v) (hl : RelL ρ l vs) : RelL ρ (x :: l) (v :: vs) := by
  simp only [RelL]; exact ⟨v, vs, rfl, h, hl⟩
theorem RelL.uncons {x : SV} {v : Value} {l : List SV} {vs : List Value} (h : RelL ρ (x :: l) (v :: vs)) : x.Rel ρ v ∧ RelL ρ l vs := by
  simp only [RelL] at h
  obtain ⟨_, _, e, h1, h2⟩ := h
  simp only [List.cons.injEq] at e
  obtain ⟨rfl, rfl⟩ := e
  exact ⟨h1, h2⟩
theorem RelL.length {l : List SV} {vs : List Value} (h : RelL ρ l vs) : l.length = vs.length := by
  induction l generalizing vs with
  | nil => simp only [RelL] at h; subst h; rfl
  | cons x l ih => simp only [RelL] at h; obtain ⟨v, r, rfl, _, h2⟩ := h; simp [ih h2]
theorem RelL.get {l : List SV} {vs : List Value} (h : RelL ρ l vs) (i : Nat) : (lget l i).Rel ρ (vs.getD i undef) := by
  induction l generalizing vs i with
  | nil => simp only [RelL] at h; subst h; simp only [lget_nil, SV.Rel]
  | cons x l ih =>
    simp only [RelL] at h; obtain ⟨v, r, rfl, h1, h2⟩ := h
    cases i with
    | zero => exact h1
    | succ i => exact ih h2 i
theorem RelL.get? {l : List SV} {vs : List Value} (h : RelL ρ l vs) {i : Nat} (hi : i < l.length) : ∃ v, vs[i]? = some v ∧ (lget l i).Rel ρ v := by
  have h1 := h.get i
  have h2 := h.length
  refine ⟨vs[i]'(by omega), List.getElem?_eq_getElem _, ?_⟩
  rw [List.getD_eq_getElem?_getD, List.getElem?_eq_getElem (by omega)] at h1
  exact h1
theorem RelL.set {l : List SV} {vs : List Value} (h : RelL ρ l vs) (i : Nat) {x : SV} {v : Value} (hx : x.Rel ρ v) : RelL ρ (lset l i x) (vs.set i v) := by
  induction l generalizing vs i with
  | nil => simp only [RelL] at h; subst h; simp only [lset_nil, List.set_nil, RelL]
  | cons y l ih =>
    simp only [RelL] at h; obtain ⟨u, r, rfl, h1, h2⟩ := h
    cases i with
    | zero => exact .cons hx h2
    | succ i => exact .cons h1 (ih h2 i)
theorem RelL.drop {l : List SV} {vs : List Value} (h : RelL ρ l vs) (n : Nat) : RelL ρ (l.drop n) (vs.drop n) := by
  induction n generalizing l vs with
  | zero => simpa using h
  | succ n ih =>
    cases l with
    | nil => simp only [RelL] at h; subst h; simp only [List.drop_nil, RelL]
    | cons x l => simp only [RelL] at h; obtain ⟨v, r, rfl, _, h2⟩ := h; simpa using ih h2
theorem RelL.take {l : List SV} {vs : List Value} (h : RelL ρ l vs) (n : Nat) : RelL ρ (l.take n) (vs.take n) := by
  induction n generalizing l vs with
  | zero => simp only [List.take_zero, RelL]
  | succ n ih =>
    cases l with
    | nil => simp only [RelL] at h; subst h; simp only [List.take_nil, RelL]
    | cons x l => simp only [RelL] at h; obtain ⟨v, r, rfl, h1, h2⟩ := h; simpa using RelL.cons h1 (ih h2)
theorem RelL.append {l k : List SV} {vs us : List Value} (h : RelL ρ l vs) (hk : RelL ρ k us) : RelL ρ (l ++ k) (vs ++ us) := by
  induction l generalizing vs with
  | nil => simp only [RelL] at h; subst h; simpa using hk
  | cons x l ih => simp only [RelL] at h; obtain ⟨v, r, rfl, h1, h2⟩ := h; exact .cons h1 (ih h2)
theorem RelL.split {l k : List SV} {vs : List Value} (h : RelL ρ (l ++ k) vs) : ∃ us ws, vs = us ++ ws ∧ RelL ρ l us ∧ RelL ρ k ws := by
  refine ⟨vs.take l.length, vs.drop l.length, (List.take_append_drop _ _).symm, ?_, ?_⟩
  · have := h.take l.length; simpa using this
  · have := h.drop l.length; simpa using this
theorem RelL.map {α : Type} {f : α → SV} {g : α → Value} {l : List α} (h : ∀ x ∈ l, (f x).Rel ρ (g x)) : RelL ρ (l.map f) (l.map g) := by
  induction l with
  | nil => simp only [List.map_nil, RelL]
  | cons x l ih => exact .cons (h x (by simp)) (ih fun y hy => h y (by simp [hy]))
theorem RelL.of_get : ∀ {l : List SV} {vs : List Value}, l.length = vs.length → (∀ j, (lget l j).Rel ρ (vs.getD j undef)) → RelL ρ l vs
  | [], [], _, _ => .nil
  | x :: l, v :: vs, hl, h => .cons (h 0) (RelL.of_get (by simpa using hl) fun j => h (j + 1))
  | [], _ :: _, hl, _ => by simp at hl
  | _ :: _, [], hl, _ => by simp at hl
end
end SX
end Go.Proofs.YtnjaaagiindclaaGreatDoor

/-
  SX: the heap: what stands in memory where a symbolic heap is said to hold. No program in sight.
-/
namespace Go.Proofs.YtnjaaagiindclaaGreatDoor
open Go.RowKit Go.Deep
namespace SX

/-- kinds of elements of rows -/
inductive RK
  | u64 | i64 | bl | one
def RK.T : RK → Type
  | .u64 => Nat
  | .i64 => Int
  | .bl => Bool
  | .one => Nat × Nat
def RK.sz : RK → Nat
  | .u64 => 1 | .i64 => 1 | .bl => 1 | .one => 2
def RK.dflt : (k : RK) → k.T
  | .u64 => (0 : Nat) | .i64 => (0 : Int) | .bl => false | .one => ((0 : Nat), (0 : Nat))
def RK.enc : (k : RK) → k.T → List SV
  | .u64, x => [.i .u64 (Int.ofNat x)]
  | .i64, x => [.i .i64 x]
  | .bl, x => [.b x]
  | .one, x => [.i .u64 (Int.ofNat x.1), .i .u64 (Int.ofNat x.2)]
def numOf : SV → Option (IntKind × Int)
  | .l k n => some (k, n)
  | .i k n => some (k, n)
  | _ => none
def boolOf : SV → Option Bool
  | .tt => some true
  | .ff => some false
  | .b x => some x
  | _ => none
def isK (k k' : IntKind) : Bool := match k, k' with
  | .u64, .u64 => true
  | .i64, .i64 => true
  | .u32, .u32 => true
  | .i32, .i32 => true
  | .u8, .u8 => true
  | .u16, .u16 => true
  | .i8, .i8 => true
  | .i16, .i16 => true
  | _, _ => false
theorem isK_eq {k k' : IntKind} (h : isK k k' = true) : k = k' := by
  cases k <;> cases k' <;> first | rfl | (simp [isK] at h)
def intOf (k : IntKind) (x : SV) : Option Int := match numOf x with
  | some (k', n) => if isK k' k then some n else none
  | none => none
def natOf (x : SV) : Option (Prop × Nat) := match intOf .u64 x with
  | some n => some (0 ≤ n, n.toNat)
  | none => none
theorem numOf_rel {ρ : Ren} {x : SV} {k : IntKind} {n : Int} (h : numOf x = some (k, n)) {v : Value} (hr : x.Rel ρ v) : v = .int k n := by
  cases x <;> simp only [numOf, reduceCtorEq, Option.some.injEq, Prod.mk.injEq] at h
  all_goals (obtain ⟨rfl, rfl⟩ := h; simp only [SV.Rel] at hr; exact hr)
theorem boolOf_rel {ρ : Ren} {x : SV} {c : Bool} (h : boolOf x = some c) {v : Value} (hr : x.Rel ρ v) : v = .bool c := by
  cases x <;> simp only [boolOf, reduceCtorEq, Option.some.injEq] at h
  all_goals (subst h; simp only [SV.Rel] at hr; exact hr)
theorem intOf_rel {ρ : Ren} {k : IntKind} {x : SV} {n : Int} (h : intOf k x = some n) {v : Value} (hr : x.Rel ρ v) : v = .int k n := by
  unfold intOf at h
  split at h
  next k' n' e =>
    split at h
    next hk => simp only [Option.some.injEq] at h; subst h; rw [← isK_eq hk]; exact numOf_rel e hr
    · cases h
  · cases h
def dec1 {α : Type} (f : SV → Option (Prop × α)) : List SV → Option (Prop × α)
  | a :: l => match l with
    | [] => f a
    | _ :: _ => none
  | [] => none
def dec2 {α : Type} (f : SV → SV → Option (Prop × α)) : List SV → Option (Prop × α)
  | a :: l => match l with
    | b :: m => match m with
      | [] => f a b
      | _ :: _ => none
    | [] => none
  | [] => none
def natOf2 (a b : SV) : Option (Prop × (Nat × Nat)) := match natOf a, natOf b with
  | some x, some y => some (x.1 ∧ y.1, (x.2, y.2))
  | _, _ => none
def intOf' (a : SV) : Option (Prop × Int) := (intOf .i64 a).map fun n => (True, n)
def boolOf' (a : SV) : Option (Prop × Bool) := (boolOf a).map fun n => (True, n)
/-- an element out of its cells, and what that wants -/
def RK.dec (k : RK) : List SV → Option (Prop × k.T) := match k with
  | .u64 => dec1 natOf
  | .i64 => dec1 intOf'
  | .bl => dec1 boolOf'
  | .one => dec2 natOf2

theorem RK.sz_pos (k : RK) : 0 < k.sz := by cases k <;> decide
theorem RK.enc_len (k : RK) (x : k.T) : (k.enc x).length = k.sz := by cases k <;> rfl
theorem RK.sz_le (k : RK) : k.sz ≤ 2 := by cases k <;> decide
theorem natOf_rel {ρ : Ren} {x : SV} {q : Prop × Nat} (h : natOf x = some q) (hp : q.1) {v : Value} (hr : x.Rel ρ v) : v = .int .u64 (Int.ofNat q.2) := by
  unfold natOf at h
  split at h
  next n e =>
    simp only [Option.some.injEq] at h
    subst h
    rw [intOf_rel e hr]
    simp only at hp ⊢
    rw [Int.ofNat_eq_natCast, Int.toNat_of_nonneg hp]
  · cases h
theorem rel1 {ρ : Ren} {a b : SV} (h : ∀ v, a.Rel ρ v → b.Rel ρ v) {vs : List Value} (hr : RelL ρ [a] vs) : RelL ρ [b] vs := by
  simp only [RelL] at hr ⊢
  obtain ⟨v, r, rfl, h1, h2⟩ := hr
  exact ⟨v, r, rfl, h v h1, h2⟩
theorem rel2 {ρ : Ren} {a b : SV} {vs : List Value} (hr : RelL ρ [a, b] vs) : ∃ v u, vs = [v, u] ∧ a.Rel ρ v ∧ b.Rel ρ u := by
  simp only [RelL] at hr
  obtain ⟨v, r, rfl, h1, v', r', rfl, h2, rfl⟩ := hr
  exact ⟨v, v', rfl, h1, h2⟩
theorem dec1_some {α : Type} {f : SV → Option (Prop × α)} {cs : List SV} {q : Prop × α} (h : dec1 f cs = some q) : ∃ a, cs = [a] ∧ f a = some q := by
  match cs, h with
  | [a], h => exact ⟨a, rfl, h⟩
theorem dec2_some {α : Type} {f : SV → SV → Option (Prop × α)} {cs : List SV} {q : Prop × α} (h : dec2 f cs = some q) : ∃ a b, cs = [a, b] ∧ f a b = some q := by
  match cs, h with
  | [a, b], h => exact ⟨a, b, rfl, h⟩
theorem RK.dec_rel {ρ : Ren} {k : RK} {cs : List SV} {q : Prop × k.T} (h : k.dec cs = some q) (hp : q.1) {vs : List Value} (hr : RelL ρ cs vs) : RelL ρ (k.enc q.2) vs := by
  cases k with
  | u64 =>
    obtain ⟨a, rfl, h⟩ := dec1_some h
    exact rel1 (fun v hv => by simp only [SV.Rel]; exact natOf_rel h hp hv) hr
  | i64 =>
    obtain ⟨a, rfl, h⟩ := dec1_some h
    obtain ⟨n, e, rfl⟩ := Option.map_eq_some_iff.1 h
    exact rel1 (fun v hv => by simp only [SV.Rel]; exact intOf_rel e hv) hr
  | bl =>
    obtain ⟨a, rfl, h⟩ := dec1_some h
    obtain ⟨n, e, rfl⟩ := Option.map_eq_some_iff.1 h
    exact rel1 (fun v hv => by simp only [SV.Rel]; exact boolOf_rel e hv) hr
  | one =>
    obtain ⟨a, b, rfl, h9⟩ := dec2_some (f := natOf2) h
    clear h
    unfold natOf2 at h9
    split at h9
    next x y hx hy =>
      have h8 := Option.some.inj h9
      subst h8
      obtain ⟨v, u, rfl, h1, h2⟩ := rel2 hr
      exact .cons (by simp only [SV.Rel]; exact natOf_rel hx hp.1 h1) (.cons (by simp only [SV.Rel]; exact natOf_rel hy hp.2 h2) .nil)
    · cases h9

/-- kinds of keys of maps -/
inductive KK
  | int (k : IntKind) | str | non
def KK.T : KK → Type
  | .int _ => Int
  | .str => List UInt8
  | .non => Empty
instance (k : KK) : DecidableEq k.T := match k with
  | .int _ => inferInstanceAs (DecidableEq Int)
  | .str => inferInstanceAs (DecidableEq (List UInt8))
  | .non => inferInstanceAs (DecidableEq Empty)
def KK.enc : (k : KK) → k.T → Value
  | .int k, n => .int k n
  | .str, l => .string (bytesOf l)
  | .non, _ => undef
/-- entries as they are in a map -/
def MR {κ : Type} (ρ : Ren) : List (κ × SV) → List (κ × Value) → Prop
  | [], m => m = []
  | e :: es, m => ∃ v q, m = (e.1, v) :: q ∧ SV.Rel ρ e.2 v ∧ MR ρ es q
theorem MR.mono {κ : Type} {ρ ρ' : Ren} (h : ρ.le ρ') : ∀ {es : List (κ × SV)} {m : List (κ × Value)}, MR ρ es m → MR ρ' es m
  | [], _, r => r
  | _ :: _, _, r => by
    obtain ⟨v, q, e, r1, r2⟩ := r
    exact ⟨v, q, e, SV.Rel.mono h _ _ r1, MR.mono h r2⟩

/-- are two whole numbers one? (for the kernel) -/
def zB : Int → Int → Bool
  | .ofNat a, y => (match y with | .ofNat b => Nat.beq a b | .negSucc _ => false)
  | .negSucc a, y => (match y with | .negSucc b => Nat.beq a b | .ofNat _ => false)
theorem zB_eq : ∀ {a b : Int}, zB a b = true → a = b
  | .ofNat _, .ofNat _, h => by rw [Nat.eq_of_beq_eq_true h]
  | .negSucc _, .negSucc _, h => by rw [Nat.eq_of_beq_eq_true h]
def zBL : List Int → List Int → Bool
  | [], y => (match y with | [] => true | _ :: _ => false)
  | a :: l, y => (match y with | b :: m => zB a b && zBL l m | [] => false)
theorem zBL_eq : ∀ {l m : List Int}, zBL l m = true → l = m
  | [], [], _ => rfl
  | a :: l, b :: m, h => by
    have h' : (zB a b && zBL l m) = true := h
    rw [Bool.and_eq_true] at h'
    rw [zB_eq h'.1, zBL_eq h'.2]
def zBLL : List (List Int) → List (List Int) → Bool
  | [], y => (match y with | [] => true | _ :: _ => false)
  | a :: l, y => (match y with | b :: m => zBL a b && zBLL l m | [] => false)
theorem zBLL_eq : ∀ {l m : List (List Int)}, zBLL l m = true → l = m
  | [], [], _ => rfl
  | a :: l, b :: m, h => by
    have h' : (zBL a b && zBLL l m) = true := h
    rw [Bool.and_eq_true] at h'
    rw [zBL_eq h'.1, zBLL_eq h'.2]
/-- a model of what stands in several blocks; of the k-th kind: rows of numbers -/
inductive BM
  | z | n
  | d (k : Nat) (l : List (List Int))
def BM.same : BM → BM → Bool
  | .z, m => (match m with | .z => true | _ => false)
  | .n, m => (match m with | .n => true | _ => false)
  | .d k l, m => (match m with | .d k' l' => Nat.beq k k' && zBLL l l' | _ => false)
theorem BM.same_eq {a b : BM} (h : BM.same a b = true) : a = b := by
  cases a with
  | z => cases b <;> first | rfl | cases h
  | n => cases b <;> first | rfl | cases h
  | d k l =>
    cases b with
    | d k' l' =>
      have h' : (Nat.beq k k' && zBLL l l') = true := h
      rw [Bool.and_eq_true] at h'
      rw [Nat.eq_of_beq_eq_true h'.1, zBLL_eq h'.2]
    | _ => cases h
abbrev BigRep := BM → Nat → Grp → Prop

inductive SObj
  | cells (t : TypeId) (cs : List SV)
  | vec (t : TypeId) (sz : Nat) (cs : List SV) (cap : Cap)      -- the first cells are known
  | row (t : TypeId) (k : RK) (xs : List k.T) (cap : Nat)
  | mp (k : KK) (es : List (k.T × SV))
  | it (bm : Nat)                                              -- goes through the map bm
  | big (m : BM)
  | gone
abbrev Heap := List (Nat × SObj)
noncomputable def Heap.get (h : Heap) (b : Nat) : Option SObj :=
  List.rec (motive := fun _ => Option SObj) none (fun x _ ih => Bool.rec (motive := fun _ => Option SObj) ih (some x.2) (Nat.beq x.1 b)) h
noncomputable def Heap.set (h : Heap) (b : Nat) (o : SObj) : Heap :=
  List.rec (motive := fun _ => Heap) [] (fun x h ih => Bool.rec (motive := fun _ => Heap) (x :: ih) ((b, o) :: h) (Nat.beq x.1 b)) h
theorem Heap.get_nil (b : Nat) : Heap.get [] b = none := rfl
theorem Heap.get_cons (x : Nat × SObj) (h : Heap) (b : Nat) : Heap.get (x :: h) b = if Nat.beq x.1 b then some x.2 else Heap.get h b := by
  show Bool.rec (motive := fun _ => Option SObj) _ _ (Nat.beq x.1 b) = _
  cases Nat.beq x.1 b <;> rfl
theorem Heap.set_nil (b : Nat) (o : SObj) : Heap.set [] b o = [] := rfl
theorem Heap.set_cons (x : Nat × SObj) (h : Heap) (b : Nat) (o : SObj) : Heap.set (x :: h) b o = if Nat.beq x.1 b then (b, o) :: h else x :: Heap.set h b o := by
  show Bool.rec (motive := fun _ => Heap) _ _ (Nat.beq x.1 b) = _
  cases Nat.beq x.1 b <;> rfl

/-- what stays: the world at first, blocks beside, what models mean -/
structure Ctx where
  I : World
  R : List Grp
  B : BigRep

/-- the groups that an object is in memory -/
def Rep (𝔅 : BigRep) (ρ : Ren) (b : Nat) : SObj → Grp → Prop
  | .cells t cs, G => ∃ g, ∃ c : Array Value, ρ b = some g ∧ G = [(g, .cells c t (0, 0))] ∧ RelL ρ cs c.toList
  | .vec t sz cs cap, G => ∃ z, cap.Is ρ z ∧ cs.length ≤ z * sz ∧ z ≤ maxLen ∧ ((z = 0 ∧ G = []) ∨ ∃ g, ∃ c : Array Value, ρ b = some g ∧ G = [(g, .cells c t (0, 0))] ∧ c.size = z * sz ∧ RelL ρ cs (c.toList.take cs.length))
  | .row t k xs cap, G => xs.length ≤ cap ∧ cap ≤ maxLen ∧ ((cap = 0 ∧ G = []) ∨ ∃ g, ∃ c : Array Value, ρ b = some g ∧ G = [(g, .cells c t (0, 0))] ∧ c.size = cap * k.sz ∧ RelL ρ (xs.flatMap k.enc) (c.toList.take (xs.length * k.sz)))
  | .mp k es, G => ∃ g m, ρ b = some g ∧ MR ρ es m ∧ MapG k.enc g m G
  | .it bm, G => ∃ gi gm x y z, ρ b = some gi ∧ ρ bm = some gm ∧ G = [(gi, .mapIter (some gm) x y z)]
  | .big m, G => ∃ g, ρ b = some g ∧ 𝔅 m g G
  | .gone, G => G = []
def Reps (𝔅 : BigRep) (ρ : Ren) : Heap → List Grp → Prop
  | [], Gs => Gs = []
  | x :: h, Gs => ∃ G r, Gs = G :: r ∧ Rep 𝔅 ρ x.1 x.2 G ∧ Reps 𝔅 ρ h r
/-- the symbolic heap holds -/
def Holds (C : Ctx) (ρ : Ren) (h : Heap) (w : World) : Prop := ∃ Gs, Reps C.B ρ h Gs ∧ Hp C.I w (Gs ++ C.R)

theorem Rep.mono {𝔅 : BigRep} {ρ ρ' : Ren} {b : Nat} (h : ρ.le ρ') {o : SObj} {G : Grp} (r : Rep 𝔅 ρ b o G) : Rep 𝔅 ρ' b o G := by
  cases o with
  | cells t cs =>
    obtain ⟨g, c, e, e2, r⟩ := r
    exact ⟨g, c, h _ _ e, e2, RelL.mono h _ _ r⟩
  | vec t sz cs cap =>
    obtain ⟨z, hi, h1, h2, r⟩ := r
    exact ⟨z, hi.mono h, h1, h2, r.imp id (fun ⟨g, c, e, e2, h3, h4⟩ => ⟨g, c, h _ _ e, e2, h3, RelL.mono h _ _ h4⟩)⟩
  | row t k xs cap =>
    obtain ⟨h1, h2, r⟩ := r
    exact ⟨h1, h2, r.imp id (fun ⟨g, c, e, e2, h3, h4⟩ => ⟨g, c, h _ _ e, e2, h3, RelL.mono h _ _ h4⟩)⟩
  | mp k es =>
    obtain ⟨g, m, e, r, hm⟩ := r
    exact ⟨g, m, h _ _ e, r.mono h, hm⟩
  | it bm =>
    obtain ⟨gi, gm, x, y, z, e1, e2, r⟩ := r
    exact ⟨gi, gm, x, y, z, h _ _ e1, h _ _ e2, r⟩
  | big m => obtain ⟨g, e, r⟩ := r; exact ⟨g, h _ _ e, r⟩
  | gone => exact r
theorem Reps.mono {𝔅 : BigRep} {ρ ρ' : Ren} (h : ρ.le ρ') : ∀ {hp : Heap} {Gs : List Grp}, Reps 𝔅 ρ hp Gs → Reps 𝔅 ρ' hp Gs
  | [], _, r => r
  | _ :: _, _, r => by
    obtain ⟨G, q, e, r1, r2⟩ := r
    exact ⟨G, q, e, r1.mono h, Reps.mono h r2⟩

section
variable {C : Ctx} {w w' : World} {ρ ρ' : Ren} {h : Heap} {b n : Nat} {o o' : SObj}

theorem Reps.focus {𝔅 : BigRep} : ∀ {h : Heap} {Gs : List Grp}, Reps 𝔅 ρ h Gs → h.get b = some o → ∃ pre G post, Gs = pre ++ G :: post ∧ Rep 𝔅 ρ b o G ∧ ∀ ρ' o' G', ρ.le ρ' → Rep 𝔅 ρ' b o' G' → Reps 𝔅 ρ' (h.set b o') (pre ++ G' :: post)
  | [], _, _, hg => by cases hg
  | x :: h, Gs, r, hg => by
    obtain ⟨G, q, rfl, r1, r2⟩ := r
    rw [Heap.get_cons] at hg
    by_cases e : Nat.beq x.1 b = true
    · rw [if_pos e] at hg
      simp only [Option.some.injEq] at hg
      have e' : x.1 = b := Nat.eq_of_beq_eq_true e
      subst hg e'
      refine ⟨[], G, q, rfl, r1, fun ρ' o' G' hl r' => ?_⟩
      rw [Heap.set_cons, if_pos e]
      exact ⟨G', q, rfl, r', r2.mono hl⟩
    · rw [if_neg e] at hg
      obtain ⟨pre, G1, post, rfl, r3, r4⟩ := Reps.focus r2 hg
      refine ⟨G :: pre, G1, post, rfl, r3, fun ρ' o' G' hl r' => ?_⟩
      rw [Heap.set_cons, if_neg e]
      exact ⟨G, _, rfl, r1.mono hl, r4 ρ' o' G' hl r'⟩
/-- one object by itself, and the heap again when it has turned -/
theorem Holds.focus (H : Holds C ρ h w) (hg : h.get b = some o) : ∃ G R', Rep C.B ρ b o G ∧ Hp C.I w (G :: R') ∧ ∀ w' o' G', Rep C.B ρ b o' G' → Hp C.I w' (G' :: R') → Holds C ρ (h.set b o') w' := by
  obtain ⟨Gs, r, hp⟩ := H
  obtain ⟨pre, G, post, rfl, r1, r2⟩ := r.focus hg
  refine ⟨G, pre ++ (post ++ C.R), r1, hp.permG ?_, fun w' o' G' r' hp' => ⟨_, r2 ρ o' G' (.refl _) r', hp'.permG ?_⟩⟩
  · rw [List.append_assoc, List.cons_append]; exact List.perm_middle
  · rw [List.append_assoc, List.cons_append]; exact List.perm_middle.symm
theorem Holds.quiet (H : Holds C ρ h w) (hf : Fr (fun _ => False) w w') : Holds C ρ h w' := by
  obtain ⟨Gs, r, hp⟩ := H; exact ⟨Gs, r, hp.quiet hf⟩
theorem Holds.drew (H : Holds C ρ h w) : Holds C ρ h w.drew := H.quiet (Fr.refl _ w).drew
theorem Holds.mono (hρ : ρ.le ρ') (H : Holds C ρ h w) : Holds C ρ' h w := by
  obtain ⟨Gs, r, hp⟩ := H; exact ⟨Gs, r.mono hρ, hp⟩
/-- with a new object -/
theorem Holds.cons (H : Holds C ρ h w) {G : Grp} (hr : Rep C.B ρ b o G) (hh : ∀ Gs, Hp C.I w (Gs ++ C.R) → Hp C.I w' (G :: (Gs ++ C.R))) : Holds C ρ ((b, o) :: h) w' := by
  obtain ⟨Gs, r, hp⟩ := H
  exact ⟨G :: Gs, ⟨G, Gs, rfl, hr, r⟩, hh Gs hp⟩
def upd (ρ : Ren) (n g : Nat) : Ren := fun b => if b = n then some g else ρ b
theorem upd_at (ρ : Ren) (n g : Nat) : upd ρ n g n = some g := by unfold upd; rw [if_pos rfl]
theorem upd_le {ρ : Ren} {n g : Nat} (h : ρ n = none) : ρ.le (upd ρ n g) := fun b x e => by
  unfold upd
  by_cases hb : b = n
  · subst hb; rw [h] at e; cases e
  · rw [if_neg hb]; exact e
theorem upd_bd {ρ : Ren} {n g : Nat} (h : ρ.bd n) : (upd ρ n g).bd (n + 1) := fun b hb => by
  unfold upd
  rw [if_neg (by omega)]
  exact h b (by omega)
end
end SX
end Go.Proofs.YtnjaaagiindclaaGreatDoor
