/-
  Part 8 of what the statement leans on: SxJ, SxC, Sx13, Sx14.
-/
import Derived.Test.YtnjaaagiindclaaGreatDoorPk7
import Derived.Scope
import Derived.Recover
/-
  SX: two states of which all is known: one as the other. No program in sight.
-/
namespace Go.Proofs.YtnjaaagiindclaaGreatDoor
open Go.RowKit Go.Deep
namespace SX

def mtBB (lo hi b b' : Nat) (θ : Th) (K : Th → Bool) : Bool :=
  if Nat.blt b' lo then (if Nat.beq b b' then K θ else false)
  else if inR lo hi b' then (match thGet θ b' with
    | some (some c) => if Nat.beq c b then K θ else false
    | some none => false
    | none => K ((b', some b) :: θ))
  else false
theorem mtBB_P {lo hi b b' : Nat} {θ : Th} {K : Th → Bool} {K' : Th → Prop} (hK : ∀ θ, K θ = true → K' θ) (h : mtBB lo hi b b' θ K = true) : mtB lo hi b b' θ K' := by
  unfold mtBB at h
  unfold mtB
  split at h
  next h1 =>
    rw [if_pos h1]
    split at h
    next h2 => rw [if_pos h2]; exact hK _ h
    · cases h
  next h1 =>
    rw [if_neg h1]
    split at h
    next h2 =>
      rw [if_pos h2]
      split at h
      next c e =>
        simp only [e]
        split at h
        next h3 => rw [if_pos h3]; exact hK _ h
        · cases h
      · cases h
      next e => simp only [e]; exact hK _ h
    · cases h
def mtCB (lo hi : Nat) (c c' : Cap) (θ : Th) (K : Th → Bool) : Bool := match c' with
  | .c n' => (match c with | .c n => Nat.beq n n' && K θ | _ => false)
  | .v _ => false
  | .zr => (match c with | .zr => K θ | _ => false)
  | .o i' m' => (match c with | .o i m => mtBB lo hi i i' θ fun θ => Nat.beq m m' && K θ | _ => false)
theorem mtCB_P {lo hi : Nat} {c c' : Cap} {θ : Th} {K : Th → Bool} {K' : Th → Prop} (hK : ∀ θ, K θ = true → K' θ) (h : mtCB lo hi c c' θ K = true) : mtC lo hi c c' θ K' := by
  cases c' with
  | c n' =>
    cases c with
    | c n =>
      simp only [mtCB, Bool.and_eq_true] at h
      exact ⟨Nat.eq_of_beq_eq_true h.1, hK _ h.2⟩
    | v n => cases h
    | o i m => cases h
    | zr => cases h
  | v n' => cases h
  | zr =>
    cases c with
    | c n => cases h
    | v n => cases h
    | o i m => cases h
    | zr => exact hK _ h
  | o i' m' =>
    cases c with
    | c n => cases h
    | v n => cases h
    | zr => cases h
    | o i m =>
      have h : mtBB lo hi i i' θ (fun θ => Nat.beq m m' && K θ) = true := h
      exact mtBB_P (K' := fun θ => m = m' ∧ K' θ) (fun θ h => by
        simp only [Bool.and_eq_true] at h
        exact ⟨Nat.eq_of_beq_eq_true h.1, hK _ h.2⟩) h
mutual
def mtVB (lo hi : Nat) : SV → SV → Th → (Th → Bool) → Bool
  | x, y, θ, K => match y with
    | .junk => K θ
    | .tt => (match x with | .tt => K θ | _ => false)
    | .ff => (match x with | .ff => K θ | _ => false)
    | .l k n => (match x with | .l k' n' => isK k' k && (eqI n' n && K θ) | _ => false)
    | .t t => (match x with | .t t' => eqBy t' t && K θ | _ => false)
    | .p b' o' => (match x with | .p b o => mtBB lo hi b b' θ fun θ => Nat.beq o.n o'.n && K θ | _ => false)
    | .f k n => (match x with | .f k' n' => sameF k' k && (Nat.beq n' n && K θ) | _ => false)
    | .np => (match x with | .np => K θ | _ => false)
    | .sl _ b' sz' f' n' c' => (match x with
      | .sl _ b sz f n c => mtBB lo hi b b' θ fun θ => Nat.beq (f * sz) (f' * sz') && (Nat.beq n n' && mtCB lo hi c c' θ K)
      | _ => false)
    | .ns => (match x with | .ns => K θ | _ => false)
    | .m b' => (match x with | .m b => mtBB lo hi b b' θ K | _ => false)
    | .nu b' => (match x with | .nu b => mtBB lo hi b b' θ K | _ => false)
    | .nm => (match x with | .nm => K θ | _ => false)
    | .fn f' cap' => (match x with | .fn f cap => if Nat.beq f f' then mtLB lo hi cap cap' θ K else false | _ => false)
    | .nf => (match x with | .nf => K θ | _ => false)
    | .ifc t' v' => (match x with | .ifc t v => if Nat.beq t t' then mtVB lo hi v v' θ K else false | _ => false)
    | .ni => (match x with | .ni => K θ | _ => false)
    | .agg l' => (match x with | .agg l => mtLB lo hi l l' θ K | _ => false)
    | .tup l' => (match x with | .tup l => mtLB lo hi l l' θ K | _ => false)
    | .none_ => (match x with | .none_ => K θ | _ => false)
    | _ => false
def mtLB (lo hi : Nat) : List SV → List SV → Th → (Th → Bool) → Bool
  | [], [], θ, K => K θ
  | x :: l, y :: m, θ, K => mtVB lo hi x y θ fun θ => mtLB lo hi l m θ K
  | _, _, _, _ => false
end
mutual
theorem mtVB_P {lo hi : Nat} : ∀ (x y : SV) (θ : Th) (K : Th → Bool) (K' : Th → Prop), (∀ θ, K θ = true → K' θ) → mtVB lo hi x y θ K = true → mtV lo hi x y θ K'
  | x, .junk, θ, K, K', hK, h => by simp only [mtVB] at h; simp only [mtV]; exact hK _ h
  | x, .tt, θ, K, K', hK, h => by cases x <;> simp only [mtVB, Bool.false_eq_true] at h; simp only [mtV]; exact hK _ h
  | x, .ff, θ, K, K', hK, h => by cases x <;> simp only [mtVB, Bool.false_eq_true] at h; simp only [mtV]; exact hK _ h
  | x, .l k n, θ, K, K', hK, h => by
    cases x <;> simp only [mtVB, Bool.false_eq_true, Bool.and_eq_true] at h
    simp only [mtV, numOf]
    rw [if_pos h.1]
    refine ⟨?_, hK _ h.2.2⟩
    have := h.2.1
    rw [eqI_spec, decide_eq_true_eq] at this
    exact this
  | x, .t t, θ, K, K', hK, h => by
    cases x <;> simp only [mtVB, Bool.false_eq_true, Bool.and_eq_true] at h
    simp only [mtV]
    have := h.1
    rw [eqBy_spec, beq_iff_eq] at this
    exact ⟨this, hK _ h.2⟩
  | x, .p b' o', θ, K, K', hK, h => by
    cases x <;> simp only [mtVB, Bool.false_eq_true] at h
    simp only [mtV]
    refine mtBB_P (fun θ h => ?_) h
    simp only [Bool.and_eq_true] at h
    exact ⟨Nat.eq_of_beq_eq_true h.1, hK _ h.2⟩
  | x, .np, θ, K, K', hK, h => by cases x <;> simp only [mtVB, Bool.false_eq_true] at h; simp only [mtV]; exact hK _ h
  | x, .sl l' b' sz' f' n' c', θ, K, K', hK, h => by
    cases x <;> simp only [mtVB, Bool.false_eq_true] at h
    simp only [mtV]
    refine mtBB_P (fun θ h => ?_) h
    simp only [Bool.and_eq_true] at h
    exact ⟨⟨Nat.eq_of_beq_eq_true h.1, Nat.eq_of_beq_eq_true h.2.1⟩, mtCB_P hK h.2.2⟩
  | x, .ns, θ, K, K', hK, h => by cases x <;> simp only [mtVB, Bool.false_eq_true] at h; simp only [mtV]; exact hK _ h
  | x, .m b', θ, K, K', hK, h => by
    cases x <;> simp only [mtVB, Bool.false_eq_true] at h
    simp only [mtV]
    exact mtBB_P hK h
  | x, .nu b', θ, K, K', hK, h => by
    cases x <;> simp only [mtVB, Bool.false_eq_true] at h
    simp only [mtV]
    exact mtBB_P hK h
  | x, .nm, θ, K, K', hK, h => by cases x <;> simp only [mtVB, Bool.false_eq_true] at h; simp only [mtV]; exact hK _ h
  | x, .fn f' cap', θ, K, K', hK, h => by
    cases x <;> simp only [mtVB, Bool.false_eq_true] at h
    simp only [mtV]
    split at h
    next e => rw [if_pos e]; exact mtLB_P _ _ _ _ _ hK h
    · cases h
  | x, .nf, θ, K, K', hK, h => by cases x <;> simp only [mtVB, Bool.false_eq_true] at h; simp only [mtV]; exact hK _ h
  | x, .ifc t' v', θ, K, K', hK, h => by
    cases x <;> simp only [mtVB, Bool.false_eq_true] at h
    simp only [mtV]
    split at h
    next e => rw [if_pos e]; exact mtVB_P _ _ _ _ _ hK h
    · cases h
  | x, .ni, θ, K, K', hK, h => by cases x <;> simp only [mtVB, Bool.false_eq_true] at h; simp only [mtV]; exact hK _ h
  | x, .agg l', θ, K, K', hK, h => by
    cases x <;> simp only [mtVB, Bool.false_eq_true] at h
    simp only [mtV]; exact mtLB_P _ _ _ _ _ hK h
  | x, .tup l', θ, K, K', hK, h => by
    cases x <;> simp only [mtVB, Bool.false_eq_true] at h
    simp only [mtV]; exact mtLB_P _ _ _ _ _ hK h
  | x, .none_, θ, K, K', hK, h => by cases x <;> simp only [mtVB, Bool.false_eq_true] at h; simp only [mtV]; exact hK _ h
  | x, .b _, θ, K, K', hK, h => by unfold mtVB at h; cases h
  | x, .i _ _, θ, K, K', hK, h => by unfold mtVB at h; cases h
  | x, .f k n, θ, K, K', hK, h => by
    cases x <;> simp only [mtVB, Bool.false_eq_true, Bool.and_eq_true] at h
    simp only [mtV]
    exact ⟨⟨sameF_eq h.1, Nat.eq_of_beq_eq_true h.2.1⟩, hK _ h.2.2⟩
  | x, .s _, θ, K, K', hK, h => by unfold mtVB at h; cases h
  | x, .rp _ _, θ, K, K', hK, h => by unfold mtVB at h; cases h
  | x, .v _, θ, K, K', hK, h => by unfold mtVB at h; cases h
theorem mtLB_P {lo hi : Nat} : ∀ (x y : List SV) (θ : Th) (K : Th → Bool) (K' : Th → Prop), (∀ θ, K θ = true → K' θ) → mtLB lo hi x y θ K = true → mtL lo hi x y θ K'
  | [], [], θ, K, K', hK, h => by simp only [mtLB] at h; simp only [mtL]; exact hK _ h
  | x :: l, y :: m, θ, K, K', hK, h => by
    simp only [mtLB] at h
    simp only [mtL]
    exact mtVB_P x y θ _ _ (fun θ h => mtLB_P l m θ K K' hK h) h
  | [], _ :: _, _, _, _, _, h => by simp only [mtLB, Bool.false_eq_true] at h
  | _ :: _, [], _, _, _, _, h => by simp only [mtLB, Bool.false_eq_true] at h
end

/-- surely one and the same -/
def sameO (x y : Off) : Bool := match x with
  | .c n => (match y with | .c m => Nat.beq n m | _ => false)
  | _ => false
theorem sameO_eq {x y : Off} (h : sameO x y = true) : x = y := by
  unfold sameO at h
  split at h
  · split at h
    · rw [Nat.eq_of_beq_eq_true h]
    · cases h
  · cases h
def sameLit (a b : Bool) : Bool := match a with | true => b | false => !b
theorem sameLit_eq {a b : Bool} (h : sameLit a b = true) : a = b := by cases a <;> cases b <;> first | rfl | cases h
def sameCp (x y : Cap) : Bool := match x with
  | .c n => (match y with | .c m => Nat.beq n m | _ => false)
  | .o i a => (match y with | .o j b => Nat.beq i j && Nat.beq a b | _ => false)
  | .zr => (match y with | .zr => true | _ => false)
  | .v _ => false
theorem sameCp_eq {x y : Cap} (h : sameCp x y = true) : x = y := by
  cases x <;> cases y <;> simp only [sameCp, Bool.false_eq_true, Bool.and_eq_true] at h
  · rw [Nat.eq_of_beq_eq_true h]
  · rw [Nat.eq_of_beq_eq_true h.1, Nat.eq_of_beq_eq_true h.2]
  · rfl
mutual
def sameS : SV → SV → Bool
  | x, y => match x with
    | .tt => (match y with | .tt => true | _ => false)
    | .ff => (match y with | .ff => true | _ => false)
    | .l k n => (match y with | .l k' n' => isK k k' && eqI n n' | _ => false)
    | .t l => (match y with | .t l' => eqBy l l' | _ => false)
    | .p b o => (match y with | .p b' o' => Nat.beq b b' && sameO o o' | _ => false)
    | .np => (match y with | .np => true | _ => false)
    | .ns => (match y with | .ns => true | _ => false)
    | .m b => (match y with | .m b' => Nat.beq b b' | _ => false)
    | .nu b => (match y with | .nu b' => Nat.beq b b' | _ => false)
    | .nm => (match y with | .nm => true | _ => false)
    | .ni => (match y with | .ni => true | _ => false)
    | .nf => (match y with | .nf => true | _ => false)
    | .agg l => (match y with | .agg l' => sameL l l' | _ => false)
    | .sl l b z f n c => (match y with | .sl l' b' z' f' n' c' => sameLit l l' && (Nat.beq b b' && (Nat.beq z z' && (Nat.beq f f' && (Nat.beq n n' && sameCp c c')))) | _ => false)
    | .fn f l => (match y with | .fn f' l' => Nat.beq f f' && sameL l l' | _ => false)
    | .ifc t v => (match y with | .ifc t' v' => Nat.beq t t' && sameS v v' | _ => false)
    | _ => false
def sameL : List SV → List SV → Bool
  | [], [] => true
  | x :: l, y :: m => sameS x y && sameL l m
  | _, _ => false
end
mutual
theorem sameS_eq : ∀ (x y : SV), sameS x y = true → x = y
  | .tt, y, h => by cases y <;> simp only [sameS, Bool.false_eq_true] at h; rfl
  | .ff, y, h => by cases y <;> simp only [sameS, Bool.false_eq_true] at h; rfl
  | .l k n, y, h => by
    cases y <;> simp only [sameS, Bool.false_eq_true, Bool.and_eq_true] at h
    have e2 := h.2
    rw [eqI_spec, decide_eq_true_eq] at e2
    rw [isK_eq h.1, e2]
  | .t l, y, h => by
    cases y <;> simp only [sameS, Bool.false_eq_true] at h
    rw [eqBy_spec, beq_iff_eq] at h
    rw [h]
  | .p b o, y, h => by
    cases y <;> simp only [sameS, Bool.false_eq_true, Bool.and_eq_true] at h
    rw [Nat.eq_of_beq_eq_true h.1, sameO_eq h.2]
  | .np, y, h => by cases y <;> simp only [sameS, Bool.false_eq_true] at h; rfl
  | .ns, y, h => by cases y <;> simp only [sameS, Bool.false_eq_true] at h; rfl
  | .m b, y, h => by
    cases y <;> simp only [sameS, Bool.false_eq_true] at h
    rw [Nat.eq_of_beq_eq_true h]
  | .nu b, y, h => by
    cases y <;> simp only [sameS, Bool.false_eq_true] at h
    rw [Nat.eq_of_beq_eq_true h]
  | .nm, y, h => by cases y <;> simp only [sameS, Bool.false_eq_true] at h; rfl
  | .ni, y, h => by cases y <;> simp only [sameS, Bool.false_eq_true] at h; rfl
  | .nf, y, h => by cases y <;> simp only [sameS, Bool.false_eq_true] at h; rfl
  | .agg l, y, h => by
    cases y <;> simp only [sameS, Bool.false_eq_true] at h
    rw [sameL_eq l _ h]
  | .b _, y, h => by unfold sameS at h; cases h
  | .i _ _, y, h => by unfold sameS at h; cases h
  | .f _ _, y, h => by unfold sameS at h; cases h
  | .s _, y, h => by unfold sameS at h; cases h
  | .rp _ _, y, h => by unfold sameS at h; cases h
  | .sl l b z f n c, y, h => by
    cases y <;> simp only [sameS, Bool.false_eq_true, Bool.and_eq_true] at h
    obtain ⟨h1, h2, h3, h4, h5, h6⟩ := h
    rw [sameLit_eq h1, Nat.eq_of_beq_eq_true h2, Nat.eq_of_beq_eq_true h3, Nat.eq_of_beq_eq_true h4, Nat.eq_of_beq_eq_true h5, sameCp_eq h6]
  | .fn f l, y, h => by
    cases y <;> simp only [sameS, Bool.false_eq_true, Bool.and_eq_true] at h
    rw [Nat.eq_of_beq_eq_true h.1, sameL_eq l _ h.2]
  | .ifc t v, y, h => by
    cases y <;> simp only [sameS, Bool.false_eq_true, Bool.and_eq_true] at h
    rw [Nat.eq_of_beq_eq_true h.1, sameS_eq v _ h.2]
  | .tup _, y, h => by unfold sameS at h; cases h
  | .v _, y, h => by unfold sameS at h; cases h
  | .junk, y, h => by unfold sameS at h; cases h
  | .none_, y, h => by unfold sameS at h; cases h
theorem sameL_eq : ∀ (x y : List SV), sameL x y = true → x = y
  | [], [], _ => rfl
  | x :: l, y :: m, h => by
    simp only [sameL, Bool.and_eq_true] at h
    rw [sameS_eq x y h.1, sameL_eq l m h.2]
  | [], _ :: _, h => by simp only [sameL, Bool.false_eq_true] at h
  | _ :: _, [], h => by simp only [sameL, Bool.false_eq_true] at h
end
def sameE (k : KK) : List (k.T × SV) → List (k.T × SV) → Bool
  | [], [] => true
  | x :: l, y :: m => k.beq x.1 y.1 && (sameS x.2 y.2 && sameE k l m)
  | _, _ => false
theorem sameE_eq (k : KK) : ∀ (x y : List (k.T × SV)), sameE k x y = true → x = y
  | [], [], _ => rfl
  | x :: l, y :: m, h => by
    simp only [sameE, Bool.and_eq_true] at h
    have e1 := h.1
    rw [KK.beq_spec, decide_eq_true_eq] at e1
    rw [sameE_eq k l m h.2.2, show x = y from Prod.ext e1 (sameS_eq _ _ h.2.1)]
  | [], _ :: _, h => by simp only [sameE, Bool.false_eq_true] at h
  | _ :: _, [], h => by simp only [sameE, Bool.false_eq_true] at h
def mtMB (k : KK) (es : List (k.T × SV)) (k' : KK) (es' : List (k'.T × SV)) : Bool := match k, es, k', es' with
  | .int a, es, .int b, es' => isK a b && sameE (.int a) es es'
  | .str, es, .str, es' => sameE .str es es'
  | .non, es, .non, es' => sameE .non es es'
  | _, _, _, _ => false
theorem mtMB_P {k : KK} {es : List (k.T × SV)} {k' : KK} {es' : List (k'.T × SV)} (h : mtMB k es k' es' = true) : mtM k es k' es' := by
  cases k with
  | int a =>
    cases k' with
    | int b =>
      simp only [mtMB, Bool.and_eq_true] at h
      have := isK_eq h.1
      subst this
      unfold mtM
      rw [dif_pos rfl]
      exact sameE_eq (.int a) es es' h.2
    | str => cases h
    | non => cases h
  | str =>
    cases k' with
    | int b => cases h
    | str => unfold mtM; rw [dif_pos rfl]; exact sameE_eq .str es es' h
    | non => cases h
  | non =>
    cases k' with
    | int b => cases h
    | str => cases h
    | non => unfold mtM; rw [dif_pos rfl]; exact sameE_eq .non es es' h
def mtOB (lo hi : Nat) (o o' : SObj) (θ : Th) (K : Th → Bool) : Bool := match o' with
  | .cells t' cs' => (match o with | .cells t cs => if Nat.beq t t' then mtLB lo hi cs cs' θ K else false | _ => false)
  | .vec t' sz' cs' c' => (match o with | .vec t sz cs c => if Nat.beq t t' && Nat.beq sz sz' then mtLB lo hi cs cs' θ fun θ => mtCB lo hi c c' θ K else false | _ => false)
  | .mp k' es' => (match o with | .mp k es => if blwL lo (es.map (·.2)) then mtMB k es k' es' && K θ else false | _ => false)
  | .gone => (match o with | .gone => K θ | _ => false)
  | .it bm' => (match o with | .it bm => mtBB lo hi bm bm' θ K | _ => false)
  | .big m' => (match o with | .big m => BM.same m m' && K θ | _ => false)
  | _ => false
theorem mtOB_P {lo hi : Nat} {o o' : SObj} {θ : Th} {K : Th → Bool} {K' : Th → Prop} (hK : ∀ θ, K θ = true → K' θ) (h : mtOB lo hi o o' θ K = true) : mtO lo hi o o' θ K' := by
  cases o' with
  | cells t' cs' =>
    cases o <;> simp only [mtOB, Bool.false_eq_true] at h
    simp only [mtO]
    split at h
    next e => rw [if_pos e]; exact mtLB_P _ _ _ _ _ hK h
    · cases h
  | vec t' sz' cs' c' =>
    cases o <;> simp only [mtOB, Bool.false_eq_true] at h
    simp only [mtO]
    split at h
    next e => rw [if_pos e]; exact mtLB_P _ _ _ _ _ (fun θ h => mtCB_P hK h) h
    · cases h
  | mp k' es' =>
    cases o <;> simp only [mtOB, Bool.false_eq_true] at h
    simp only [mtO]
    split at h
    next e =>
      simp only [Bool.and_eq_true] at h
      rw [if_pos e]
      exact ⟨mtMB_P h.1, hK _ h.2⟩
    · cases h
  | gone =>
    cases o <;> simp only [mtOB, Bool.false_eq_true] at h
    simp only [mtO]; exact hK _ h
  | row _ _ _ _ => cases h
  | it bm' =>
    cases o with
    | it bm => exact mtBB_P hK (show mtBB lo hi bm bm' θ K = true from h)
    | _ => cases h
  | big m' =>
    cases o <;> simp only [mtOB, Bool.false_eq_true] at h
    next m =>
      simp only [mtO]
      rw [Bool.and_eq_true] at h
      exact ⟨BM.same_eq h.1, hK _ h.2⟩
def isGone (o : SObj) : Bool := match o with | .gone => true | _ => false
theorem isGone_eq {o : SObj} (h : isGone o = true) : o = .gone := by cases o <;> first | rfl | cases h
/-- heaps as `mtH` does; a box of the second that nothing names may be any of the first -/
def mtG (lo hi : Nat) : Heap → Heap → Th → (Th → Prop) → Prop
  | _, [], θ, K => K θ
  | h, x :: r, θ, K =>
    let at_ (b : Nat) (θ : Th) : Prop := match h.get b with
      | some o => mtO lo hi o x.2 θ fun θ => mtG lo hi (h.rem b) r θ K
      | none => False
    if Nat.blt x.1 lo then at_ x.1 θ
    else if inR lo hi x.1 then (match thGet θ x.1 with
      | some (some b) => at_ b θ
      | some none => (x.2 = .gone) ∧ mtG lo hi h r θ K
      | none => ((x.2 = .gone) ∧ mtG lo hi h r θ K) ∨ ∃ b, at_ b ((x.1, some b) :: θ))
    else False
theorem mtG_snd {C : Ctx} {w : World} {lo hi : Nat} : ∀ (h' h : Heap) (θ : Th) (K : Th → Prop), mtG lo hi h h' θ K →
    Got lo hi θ K fun ρ ρ' => (∀ b, b < lo → ρ' b = ρ b) → ∀ A Gs, Reps C.B ρ h Gs → Hp C.I w (A ++ (Gs ++ C.R)) → ∃ Gs', Reps C.B ρ' h' Gs' ∧ Hp C.I w (A ++ (Gs' ++ C.R))
  | [], h, θ, K, H => .here (by simpa only [mtG] using H) fun ρ ρ' _ A Gs _ hp => ⟨[], rfl, by
      rw [List.nil_append]
      have : Hp C.I w (Gs ++ (A ++ C.R)) := hp.permG (by
        rw [← List.append_assoc, ← List.append_assoc]
        exact (List.perm_append_comm (l₁ := A) (l₂ := Gs)).append_right C.R)
      exact hp_drops this⟩
  | x :: r, h, θ, K, H => by
    have key : ∀ b θ0, Ext θ θ0 → (match h.get b with | some o => mtO lo hi o x.2 θ0 fun θ => mtG lo hi (h.rem b) r θ K | none => False) → (∀ ρ ρ' θ', Ext θ0 θ' → Comp lo hi ρ ρ' θ' → ρ' x.1 = ρ b) →
        Got lo hi θ K fun ρ ρ' => (∀ b, b < lo → ρ' b = ρ b) → ∀ A Gs, Reps C.B ρ h Gs → Hp C.I w (A ++ (Gs ++ C.R)) → ∃ Gs', Reps C.B ρ' (x :: r) Gs' ∧ Hp C.I w (A ++ (Gs' ++ C.R)) := by
      intro b θ0 h0 Hb hb
      split at Hb
      next o ho =>
        obtain ⟨θ1, h1, h2, h3⟩ := mtO_snd (𝔅 := C.B) Hb
        obtain ⟨θ2, h4, h5, h6⟩ := mtG_snd (C := C) (w := w) r (h.rem b) θ1 K h1
        refine ⟨θ2, h4, (h0.trans h2).trans h5, fun ρ ρ' Cm hlo A Gs hr hp => ?_⟩
        obtain ⟨pre, G, post, rfl, r1, r2⟩ := hr.take ho
        obtain ⟨Gs', r3, hp'⟩ := h6 ρ ρ' Cm hlo (A ++ [G]) (pre ++ post) r2 (hp.permG (by
          simp only [List.append_assoc, List.cons_append, List.nil_append]
          exact (List.perm_middle).append_left A))
        exact ⟨G :: Gs', ⟨G, Gs', rfl, h3 ρ ρ' (Cm.mono h5) b x.1 G (hb ρ ρ' θ2 (h2.trans h5) Cm) hlo r1, r3⟩, by simpa using hp'⟩
      · exact Hb.elim
    have skip : mtG lo hi h r θ K → (∀ ρ', Rep C.B ρ' x.1 x.2 []) →
        Got lo hi θ K fun ρ ρ' => (∀ b, b < lo → ρ' b = ρ b) → ∀ A Gs, Reps C.B ρ h Gs → Hp C.I w (A ++ (Gs ++ C.R)) → ∃ Gs', Reps C.B ρ' (x :: r) Gs' ∧ Hp C.I w (A ++ (Gs' ++ C.R)) := by
      intro H hx
      obtain ⟨θ2, h4, h5, h6⟩ := mtG_snd (C := C) (w := w) r h θ K H
      refine ⟨θ2, h4, h5, fun ρ ρ' Cm hlo A Gs hr hp => ?_⟩
      obtain ⟨Gs', r3, hp'⟩ := h6 ρ ρ' Cm hlo A Gs hr hp
      exact ⟨[] :: Gs', ⟨[], Gs', rfl, hx ρ', r3⟩, hp'.perm (by simp)⟩
    unfold mtG at H
    simp only at H
    split at H
    next hlt => exact key x.1 θ (fun _ _ h => h) H (fun ρ ρ' θ' _ Cm => Cm.1 _ (blt_lt hlt))
    next =>
      split at H
      next hr =>
        split at H
        next b e => exact key b θ (fun _ _ h => h) H (fun ρ ρ' θ' he Cm => Cm.2 _ _ hr (he _ _ e))
        next => exact skip H.2 fun ρ' => by rw [H.1]; exact rfl
        next e =>
          rcases H with H | ⟨b, H⟩
          · exact skip H.2 fun ρ' => by rw [H.1]; exact rfl
          · exact key b _ (Ext.cons e) H (fun ρ ρ' θ' he Cm => Cm.2 _ _ hr (he _ _ (by simp only [thGet, Nat.beq_refl, if_true])))
      · exact H.elim
def mtF (lo hi : Nat) (vs : List SV) (h : Heap) (vs' : List SV) (h' : Heap) : Prop := mtL lo hi vs vs' [] fun θ => mtG lo hi h h' θ fun _ => True
theorem mtF_snd {C : Ctx} {w : World} {lo hi : Nat} {vs vs' : List SV} {h h' : Heap} (H : mtF lo hi vs h vs' h') {ρ : Ren} (hh : Holds C ρ h w) (hle : lo ≤ hi) :
    ∃ ρ' : Ren, (∀ b, b < lo → ρ' b = ρ b) ∧ ρ'.bd hi ∧ Holds C ρ' h' w ∧ ∀ us, RelL ρ vs us → RelL ρ' vs' us := by
  obtain ⟨θ1, h1, h2, h3⟩ := mtL_snd _ _ _ _ H
  obtain ⟨θ2, _, h5, h6⟩ := mtG_snd (C := C) (w := w) h' h θ1 _ h1
  let ρ' : Ren := fun b => if b < lo then ρ b else if inR lo hi b then (match thGet θ2 b with | some (some c) => ρ c | _ => none) else none
  have Cm : Comp lo hi ρ ρ' θ2 := by
    refine ⟨fun b hb => by simp only [ρ']; rw [if_pos hb], fun b' b hr e => ?_⟩
    have : ¬ b' < lo := by
      simp only [inR, Bool.and_eq_true] at hr
      have := Nat.le_of_ble_eq_true hr.1
      omega
    simp only [ρ']
    rw [if_neg this, if_pos hr, e]
  obtain ⟨Gs, r, hp⟩ := hh
  obtain ⟨Gs', r', hp'⟩ := h6 ρ ρ' Cm Cm.1 [] Gs r hp
  refine ⟨ρ', Cm.1, fun b hb => ?_, ⟨Gs', r', hp'⟩, h3 ρ ρ' (Cm.mono h5)⟩
  simp only [ρ']
  rw [if_neg (by omega), if_neg]
  simp only [inR, Bool.and_eq_true, not_and]
  intro _ hlt
  have := blt_lt hlt
  omega
/-- the first box of which p holds -/
def fstG (p : Nat → SObj → Bool) : Heap → Option Nat
  | [] => none
  | x :: h => if p x.1 x.2 then some x.1 else fstG p h
noncomputable def mtHB (lo hi : Nat) : Heap → Heap → Th → Bool
  | _, [], _ => true
  | h, x :: r, θ =>
    if Nat.blt x.1 lo then (match h.get x.1 with
      | some o => mtOB lo hi o x.2 θ fun θ => mtHB lo hi (h.rem x.1) r θ
      | none => false)
    else if inR lo hi x.1 then (match thGet θ x.1 with
      | some (some b) => (match h.get b with
        | some o => mtOB lo hi o x.2 θ fun θ => mtHB lo hi (h.rem b) r θ
        | none => false)
      | some none => false
      | none => (match isGone x.2 with
        | true => mtHB lo hi h r θ
        | false => (match fstG (fun b o => Nat.ble lo b && mtOB lo hi o x.2 ((x.1, some b) :: θ) fun _ => true) h with
          | some b => (match h.get b with
            | some o => mtOB lo hi o x.2 ((x.1, some b) :: θ) fun θ => mtHB lo hi (h.rem b) r θ
            | none => false)
          | none => false)))
    else false
theorem mtHB_P {lo hi : Nat} : ∀ (h' h : Heap) (θ : Th), mtHB lo hi h h' θ = true → mtG lo hi h h' θ fun _ => True
  | [], h, θ, _ => by simp only [mtG]
  | x :: r, h, θ, H => by
    unfold mtHB at H
    unfold mtG
    simp only
    split at H
    next h1 =>
      rw [if_pos h1]
      split at H
      next o ho => first | exact mtOB_P (fun θ h => mtHB_P r _ θ h) H | simp only [ho]; exact mtOB_P (fun θ h => mtHB_P r _ θ h) H
      · cases H
    next h1 =>
      rw [if_neg h1]
      split at H
      next h2 =>
        rw [if_pos h2]
        split at H
        next b e =>
          split at H
          next o ho => first | exact mtOB_P (fun θ h => mtHB_P r _ θ h) H | simp only [e, ho]; exact mtOB_P (fun θ h => mtHB_P r _ θ h) H
          · cases H
        · cases H
        next e =>
          try simp only [e]
          split at H
          next hx => exact .inl ⟨isGone_eq hx, mtHB_P r h θ H⟩
          next =>
            split at H
            next b _ =>
              split at H
              next o ho => exact .inr ⟨b, by first | exact mtOB_P (fun θ h => mtHB_P r _ θ h) H | simp only [ho]; exact mtOB_P (fun θ h => mtHB_P r _ θ h) H⟩
              · cases H
            · cases H
      · cases H

/-! states joined -/
/-- the state st' as st: what slots of dl hold, and the heap; the numbers from lo on named anew -/
def Joins (lo : Nat) (dl : List Nat) (st' st : St) : Prop := st'.df = [] ∧ st.df = [] ∧ lo ≤ st.nx ∧ mtF lo st.nx (dl.map (sget st'.tm)) st'.hp (dl.map (sget st.tm)) st.hp
noncomputable def joinB (lo : Nat) (dl : List Nat) (st' st : St) : Bool := match st'.df with
  | [] => (match st.df with
    | [] => Nat.ble lo st.nx && mtLB lo st.nx (dl.map (sget st'.tm)) (dl.map (sget st.tm)) [] fun θ => mtHB lo st.nx st'.hp st.hp θ
    | _ => false)
  | _ => false
theorem joinB_P {lo : Nat} {dl : List Nat} {st' st : St} (h : joinB lo dl st' st = true) : Joins lo dl st' st := by
  unfold joinB at h
  split at h
  next e1 =>
    split at h
    next e2 =>
      simp only [Bool.and_eq_true] at h
      exact ⟨e1, e2, Nat.le_of_ble_eq_true h.1, mtLB_P _ _ _ _ _ (fun θ h => mtHB_P _ _ θ h) h.2⟩
    · cases h
  · cases h
noncomputable def joinT (lo : Nat) (dl : List Nat) (st' st : St) : Tree := if joinB lo dl st' st then .stop else .need (Joins lo dl st' st) .stop
theorem joinT_snd {Q : Ex → St → Prop} {lo : Nat} {dl : List Nat} {st' st : St} (h : (joinT lo dl st' st).den Q) : Joins lo dl st' st := by
  unfold joinT at h
  split at h
  next e => exact joinB_P e
  next => exact h.1
theorem Joins.hs {C : Ctx} {ρ0 ρa ρ' : Ren} {st0 st' st : St} {a0 a' : Act} {w0 w' : World} {dl : List Nat} (h : Joins st0.nx dl st' st) (H0 : HS C ρ0 ρa st0 a0 w0) (H : HS C ρ0 ρ' st' a' w') (hag : Ag dl st0.tm st'.tm) (hag' : Ag dl st0.tm st.tm) :
    ∃ ρ2, HS C ρ0 ρ2 st a' w' := by
  obtain ⟨h1, h2, h3, hm⟩ := h
  obtain ⟨ρ2, hlo, hbd, hh, ht⟩ := mtF_snd hm H.hp h3
  have hr := ht (dl.map fun j => a'.tmps.toList.getD j undef) (RelL.map fun j _ => H.tm.get j)
  refine ⟨ρ2, hh, ⟨hag'.1.trans (hag.1.symm.trans H.tm.1), fun j => ?_⟩, ?_, hbd, ?_⟩
  · by_cases hj : j ∈ dl
    · have key : ∀ l : List Nat, j ∈ l → RelL ρ2 (l.map (sget st.tm)) (l.map fun j => a'.tmps.toList.getD j undef) → (sget st.tm j).Rel ρ2 (a'.tmps.toList.getD j undef) := by
        intro l
        induction l with
        | nil => intro h; cases h
        | cons x l ih =>
          intro h hr
          simp only [List.map_cons] at hr
          rcases List.mem_cons.1 h with rfl | h
          · exact hr.uncons.1
          · exact ih h hr.uncons.2
      exact key dl hj hr
    · rw [hag'.2 j hj]
      have := H.tm.get j
      rw [hag.2 j hj] at this
      exact SV.Rel.carry H0.bd hlo _ _ _ (H0.tm.get j) this
  · have := H.df
    rw [h1] at this
    rw [h2]
    exact this
  · intro b x hbx
    have hlt : b < st0.nx := H0.bd.lt (H0.le b x hbx)
    rw [hlo b hlt]
    exact H.le b x hbx
end SX
end Go.Proofs.YtnjaaagiindclaaGreatDoor

/-
  SX: regions that draw their order, walked. No program in sight.
-/
namespace Go.Proofs.YtnjaaagiindclaaGreatDoor
open Go.RowKit Go.Deep
namespace SX

/-- a load that has been taken first -/
structure Tkn where
  k : Nat
  t : TypeId
  ad : SV
  v : SV
/-- surely the same -/
def eqB (x y : SV) : Bool := mtVB 1000000000 0 x y [] fun _ => true
theorem eqB_rel {x y : SV} (h : eqB x y = true) {ρ : Ren} {v : Value} (r : x.Rel ρ v) : y.Rel ρ v :=
  mt_same (mtVB_P x y [] _ (fun _ => True) (fun _ _ => trivial) h) r
noncomputable def chk (ty : TypeId → Option TI) (tm : Nat) (hp : Heap) (K : Tree) : List Tkn → Tree
  | [] => K
  | x :: r => if bit tm x.k then chk ty tm hp K r else ldW ty hp x.t x.ad fun y => if eqB y x.v then chk ty tm hp K r else .need (sameV y x.v) (chk ty tm hp K r)
def rdy (lm : Nat) (r : Row) : Bool := Nat.beq (Nat.land r.pm lm) r.pm
theorem brec {α : Type 1} (a b : α) (c : Bool) : (Bool.rec (motive := fun _ => α) b a c) = if c then a else b := by cases c <;> rfl
theorem brec0 {α : Type} (a b : α) (c : Bool) : (Bool.rec (motive := fun _ => α) b a c) = if c then a else b := by cases c <;> rfl
noncomputable def pickR (lm : Nat) (st : St) (l : List Row) : Option Row := List.rec (motive := fun _ => Option Row) none
  (fun r _ ih => Bool.rec (motive := fun _ => Option Row) ih (Bool.rec (motive := fun _ => Option Row) (some r) ih (Nat.beq ((kindF r.o.op).f st) 0)) (rdy lm r)) l
theorem pickR_cons (lm : Nat) (st : St) (r : Row) (l : List Row) : pickR lm st (r :: l) = if rdy lm r && !Nat.beq (kindQ r.o st) 0 then some r else pickR lm st l := by
  show Bool.rec (motive := fun _ => Option Row) (pickR lm st l) (Bool.rec (motive := fun _ => Option Row) (some r) (pickR lm st l) (Nat.beq ((kindF r.o.op).f st) 0)) (rdy lm r) = _
  rw [kindF_eq]
  cases rdy lm r <;> cases Nat.beq (kindQ r.o st) 0 <;> rfl
noncomputable def remR (j : Nat) (l : List Row) : List Row := List.rec (motive := fun _ => List Row) [] (fun r l ih => Bool.rec (motive := fun _ => List Row) (r :: ih) l (Nat.beq r.j j)) l
theorem remR_nil (j : Nat) : remR j [] = [] := rfl
theorem remR_cons (j : Nat) (r : Row) (l : List Row) : remR j (r :: l) = if Nat.beq r.j j then l else r :: remR j l := brec0 _ _ _
noncomputable def candR (lm : Nat) : List Row → List Row
  | [] => []
  | r :: l => if rdy lm r then r :: candR lm l else candR lm l
noncomputable def bothL (f : Row → Tree) : List Row → Tree
  | [] => .fail 274
  | i :: r => match r with
    | [] => f i
    | _ => .both (f i) (bothL f r)
def setb (lm j : Nat) : Nat := Nat.lor lm (Nat.shiftLeft 1 j)
/-- an effect, and what follows -/
noncomputable def nodeA (E : Env) (ops : List Oper) (T : List Tkn) (st : St) (r : Row) (go : St → (St → Tree) → Tree) (k : St → Tree) : Tree :=
  exG ops r.o st (fun st => opT E r.o st (fun st' => chk E.ty r.tm st'.hp (go st' k) T) (fun _ _ => .fail 278)) (fun st => go (skipO r.o st) k)
/-- whichever comes first: the first of them; and the others come to the same -/
noncomputable def pickT (lo : Nat) (dl : List Nat) (f : Row → (St → Tree) → Tree) (l : List Row) (k : St → Tree) : Tree := match l with
  | [] => .fail 274
  | r :: cs => (match cs with
    | [] => f r k
    | _ => f r fun st1 => .both (k st1) (bothL (fun r' => f r' fun st' => joinT lo dl st' st1) cs))
/-- operations that leave memory as it is -/
def calmO (o : Oper) : Bool := match o.op with
  | .move _ => true
  | .assign _ => true
  | .pick .. => true
  | .fieldAddr .. => true
  | .indexAddr .. => true
  | .nilCheck _ => true
  | .unOp .. => true
  | .convert .. => true
  | .extract .. => true
  | .build .. => true
  | .field .. => true
  | .index .. => true
  | .makeInterface .. => true
  | .typeAssert .. => true
  | .load .. => true
  | .call c => (match c.callee with | .builtin b => (match b with | .min => true | .max => true | _ => false) | _ => false)
  | _ => false
noncomputable def calmR (l : List Row) : Bool := List.rec (motive := fun _ => Bool) true (fun r _ ih => Bool.rec (motive := fun _ => Bool) false ih (calmO r.o)) l
/-- is it surely told by its shadow? -/
def sureDet (y : SV) : Bool := detB y || (match y with
  | .sl lit _ _ _ len cap => isZ cap || (lit && Nat.blt 0 len)
  | _ => false)
noncomputable def tmS (st : St) (d : Option Nat) (y : SV) : St := (St.rec (motive := fun _ => St) (fun tm hp nx df => ⟨put tm d y, hp, nx, df⟩) st)
theorem tmS_eq (st : St) (d : Option Nat) (y : SV) : tmS st d y = { st with tm := put st.tm d y } := rfl
abbrev ExA := Bool → Nat → List Row → List Tkn → St → (St → Tree) → Tree
noncomputable def exA (E : Env) (ops : List Oper) (n : Nat) : ExA := Nat.rec (motive := fun _ => ExA)
  (fun _ _ rows _ st k => match rows with
    | [] => k st
    | _ => .fail 275)
  (fun _ ih q lm rows T st k => match rows with
    | [] => k st
    | r0 :: rs => (match pickR lm st (r0 :: rs) with
      | some r => (guardF ops r.o).f st (fun st => Bool.rec (motive := fun _ => Tree)
            (match r.o.op with
              | .load t x => ldW E.ty st.hp t ((srcF x).f st.tm) fun y => Bool.rec (motive := fun _ => Tree)
                  (needDet y (ih false (setb lm r.j) (remR r.j (r0 :: rs)) (⟨r.j, t, (srcF x).f st.tm, y⟩ :: T) (tmS st r.o.dst y) k))
                  (ih true (setb lm r.j) (remR r.j (r0 :: rs)) T (tmS st r.o.dst y) k)
                  (q || (!sureDet y && calmR (remR r.j (r0 :: rs))))
              | _ => .fail 276)
            ((opVF r.o.op r.o).f E st fun st => ih q (setb lm r.j) (remR r.j (r0 :: rs)) T st k)
            (Nat.beq ((kindF r.o.op).f st) 1))
            (fun st => ih q (setb lm r.j) (remR r.j (r0 :: rs)) T (skipO r.o st) k)
      | none => if q then .fail 283 else pickT st.nx (dsts ops) (fun r => nodeA E ops T st r fun st' k => ih false (setb lm r.j) (remR r.j (r0 :: rs)) T st' k) (candR lm (r0 :: rs)) k)) n
theorem exA_zero (E : Env) (ops : List Oper) (q : Bool) (lm : Nat) (rows : List Row) (T : List Tkn) (st : St) (k : St → Tree) : exA E ops 0 q lm rows T st k = (match rows with
    | [] => k st
    | _ => .fail 275) := rfl
theorem exA_succ (E : Env) (ops : List Oper) (f : Nat) (q : Bool) (lm : Nat) (rows : List Row) (T : List Tkn) (st : St) (k : St → Tree) : exA E ops (f + 1) q lm rows T st k = (match rows with
    | [] => k st
    | r0 :: rs => (match pickR lm st (r0 :: rs) with
      | some r => exG ops r.o st (fun st => if Nat.beq (kindQ r.o st) 1 then opV E r.o st fun st => exA E ops f q (setb lm r.j) (remR r.j (r0 :: rs)) T st k
            else (match r.o.op with
              | .load t x => ldW E.ty st.hp t (opnd st.tm x) fun y => if q || (!sureDet y && calmR (remR r.j (r0 :: rs))) then exA E ops f true (setb lm r.j) (remR r.j (r0 :: rs)) T { st with tm := put st.tm r.o.dst y } k
                  else needDet y (exA E ops f false (setb lm r.j) (remR r.j (r0 :: rs)) (⟨r.j, t, opnd st.tm x, y⟩ :: T) { st with tm := put st.tm r.o.dst y } k)
              | _ => .fail 276))
            (fun st => exA E ops f q (setb lm r.j) (remR r.j (r0 :: rs)) T (skipO r.o st) k)
      | none => if q then .fail 283 else pickT st.nx (dsts ops) (fun r => nodeA E ops T st r fun st' k => exA E ops f false (setb lm r.j) (remR r.j (r0 :: rs)) T st' k) (candR lm (r0 :: rs)) k)) := by
  cases rows with
  | nil => rfl
  | cons r0 rs =>
    show (match pickR lm st (r0 :: rs) with
      | some r => (guardF ops r.o).f st (fun st => Bool.rec (motive := fun _ => Tree)
            (match r.o.op with
              | .load t x => ldW E.ty st.hp t ((srcF x).f st.tm) fun y => Bool.rec (motive := fun _ => Tree)
                  (needDet y (exA E ops f false (setb lm r.j) (remR r.j (r0 :: rs)) (⟨r.j, t, (srcF x).f st.tm, y⟩ :: T) (tmS st r.o.dst y) k))
                  (exA E ops f true (setb lm r.j) (remR r.j (r0 :: rs)) T (tmS st r.o.dst y) k)
                  (q || (!sureDet y && calmR (remR r.j (r0 :: rs))))
              | _ => .fail 276)
            ((opVF r.o.op r.o).f E st fun st => exA E ops f q (setb lm r.j) (remR r.j (r0 :: rs)) T st k)
            (Nat.beq ((kindF r.o.op).f st) 1))
            (fun st => exA E ops f q (setb lm r.j) (remR r.j (r0 :: rs)) T (skipO r.o st) k)
      | none => if q then .fail 283 else pickT st.nx (dsts ops) (fun r => nodeA E ops T st r fun st' k => exA E ops f false (setb lm r.j) (remR r.j (r0 :: rs)) T st' k) (candR lm (r0 :: rs)) k) = _
    simp only [brec, guardF_eq, kindF_eq, opVF_eq, srcF_eq, tmS_eq]

/-! what has come up -/
def lstA (n lm : Nat) : Array Bool := ((List.range n).map (bit lm)).toArray
theorem lstA_getD (n lm i : Nat) (d : Bool) : (lstA n lm).getD i d = if i < n then bit lm i else d := by
  unfold lstA
  rw [Array.getD_eq_getD_getElem?]
  by_cases h : i < n <;> simp [h]
theorem bit_setb (lm j i : Nat) : bit (setb lm j) i = true ↔ bit lm i = true ∨ i = j := by
  unfold setb
  rw [bit_or, Bool.or_eq_true, bit_one]
theorem lstA_set (n lm j : Nat) : (lstA n lm).setIfInBounds j true = lstA n (setb lm j) := by
  have h1 : bit (setb lm j) j = true := (bit_setb lm j j).2 (.inr rfl)
  have h2 : ∀ i, j ≠ i → bit (setb lm j) i = bit lm i := fun i hj => by
    rw [Bool.eq_iff_iff, bit_setb]
    exact ⟨fun h => h.resolve_right fun e => hj e.symm, .inl⟩
  generalize setb lm j = m at h1 h2
  apply Array.ext_getElem?
  intro i
  unfold lstA
  rw [Array.getElem?_setIfInBounds]
  by_cases hi : i < n
  · by_cases hj : j = i
    · subst hj
      simp [hi, h1]
    · simp only [hj, if_false]
      simp [hi, h2 i hj]
  · by_cases hj : j = i
    · subst hj; simp [hi]
    · simp [hj, hi]
theorem lstA_zero (n : Nat) : lstA n 0 = Array.replicate n false := by
  unfold lstA
  apply Array.ext_getElem?
  intro i
  by_cases hi : i < n
  · simp [hi, bit_eq]
  · simp [hi]
structure RI (ops : List Oper) (lm : Nat) (rows : List Row) : Prop where
  row : ∀ r ∈ rows, ops[r.j]? = some r.o ∧ bit lm r.j = false ∧ r.pm = pmL r.o.after.toList ∧ ∀ k, bit r.tm k = true → waitsT .any ops.toArray ops.length r.j k = true
  all : ∀ i o, ops[i]? = some o → bit lm i = false → ∃ r ∈ rows, r.j = i
  lt : ∀ i, bit lm i = true → i < ops.length
  nd : (rows.map (·.j)).Nodup
theorem rdy_iff {lm : Nat} {r : Row} (h : r.pm = pmL r.o.after.toList) : rdy lm r = true ↔ ∀ e ∈ r.o.after, Region.binds .any e = true → bit lm e.on = true := by
  unfold rdy
  rw [land_same, h]
  constructor
  · intro hh e he hb
    exact hh _ ((bit_pmL _ _).2 ⟨e, by simpa using he, by rw [← bindsA_eq]; exact hb, rfl⟩)
  · intro hh i hi
    obtain ⟨e, he, hb, rfl⟩ := (bit_pmL _ _).1 hi
    exact hh e (by simpa using he) (by rw [bindsA_eq]; exact hb)
theorem ready_of {ops : List Oper} {lm : Nat} {rows : List Row} (R : RI ops lm rows) {r : Row} (hr : r ∈ rows) (h : rdy lm r = true) : r.j ∈ Region.ready .any ops.toArray (lstA ops.length lm) := by
  obtain ⟨h1, h2, h3, _⟩ := R.row r hr
  have hlt : r.j < ops.length := (List.getElem?_eq_some_iff.1 h1).1
  rw [mem_ready]
  refine ⟨by rw [lstA_getD, if_pos hlt]; exact h2, r.o, by simpa using h1, fun e he hb => ?_⟩
  have := (rdy_iff h3).1 h e he hb
  rw [lstA_getD, if_pos (R.lt _ this)]
  exact this
theorem ready_row {ops : List Oper} {lm : Nat} {rows : List Row} (R : RI ops lm rows) {j : Nat} (h : j ∈ Region.ready .any ops.toArray (lstA ops.length lm)) : ∃ r ∈ rows, r.j = j ∧ rdy lm r = true := by
  obtain ⟨h1, o, ho, hall⟩ := mem_ready.1 h
  have ho' : ops[j]? = some o := by simpa using ho
  have hlt : j < ops.length := (List.getElem?_eq_some_iff.1 ho').1
  rw [lstA_getD, if_pos hlt] at h1
  obtain ⟨r, hr, rfl⟩ := R.all j o ho' h1
  obtain ⟨q1, q2, q3, _⟩ := R.row r hr
  rw [ho'] at q1
  have hro := Option.some.inj q1
  refine ⟨r, hr, rfl, (rdy_iff q3).2 fun e he hb => ?_⟩
  have := hall e (by rw [hro]; exact he) hb
  rw [lstA_getD] at this
  split at this
  · exact this
  · cases this
theorem pickR_some {lm : Nat} {st : St} {r : Row} : ∀ {l : List Row}, pickR lm st l = some r → r ∈ l ∧ rdy lm r = true
  | [], h => by cases h
  | x :: l, h => by
    rw [pickR_cons] at h
    split at h
    next hb =>
      simp only [Bool.and_eq_true] at hb
      simp only [Option.some.injEq] at h
      subst h
      exact ⟨by simp, hb.1⟩
    next => have := pickR_some h; exact ⟨by simp [this.1], this.2⟩
theorem candR_mem {lm : Nat} {r : Row} : ∀ {l : List Row}, r ∈ l → rdy lm r = true → r ∈ candR lm l
  | [], h, _ => by cases h
  | x :: l, h, hr => by
    simp only [candR]
    rcases List.mem_cons.1 h with rfl | h
    · rw [if_pos hr]; simp
    · split
      · exact List.mem_cons_of_mem _ (candR_mem h hr)
      · exact candR_mem h hr
theorem candR_sub {lm : Nat} {r : Row} : ∀ {l : List Row}, r ∈ candR lm l → r ∈ l
  | [], h => by cases h
  | x :: l, h => by
    simp only [candR] at h
    split at h
    · rcases List.mem_cons.1 h with rfl | h
      · simp
      · exact List.mem_cons_of_mem _ (candR_sub h)
    · exact List.mem_cons_of_mem _ (candR_sub h)
theorem remR_mem {j : Nat} {r : Row} : ∀ {l : List Row}, (l.map (·.j)).Nodup → (r ∈ remR j l ↔ r ∈ l ∧ r.j ≠ j)
  | [], _ => by simp [remR_nil]
  | x :: l, hn => by
    have hn' := List.nodup_cons.1 (by simpa using hn : (x.j :: l.map (·.j)).Nodup)
    simp only [remR_cons]
    split
    next hb =>
      have e := Nat.eq_of_beq_eq_true hb
      constructor
      · intro h
        exact ⟨List.mem_cons_of_mem _ h, fun e2 => hn'.1 (List.mem_map.2 ⟨r, h, e2.trans e.symm⟩)⟩
      · rintro ⟨h, hne⟩
        rcases List.mem_cons.1 h with rfl | h
        · exact absurd e hne
        · exact h
    next hb =>
      have hne : x.j ≠ j := fun e => hb (by rw [e]; exact Nat.beq_refl j)
      rw [List.mem_cons, remR_mem hn'.2, List.mem_cons]
      constructor
      · rintro (rfl | ⟨h1, h2⟩)
        · exact ⟨.inl rfl, hne⟩
        · exact ⟨.inr h1, h2⟩
      · rintro ⟨h1 | h1, h2⟩
        · exact .inl h1
        · exact .inr ⟨h1, h2⟩
theorem remR_nd {j : Nat} : ∀ {l : List Row}, (l.map (·.j)).Nodup → ((remR j l).map (·.j)).Nodup
  | [], _ => by simp [remR_nil]
  | x :: l, hn => by
    have hn' := List.nodup_cons.1 (by simpa using hn : (x.j :: l.map (·.j)).Nodup)
    simp only [remR_cons]
    split
    · exact hn'.2
    · simp only [List.map_cons, List.nodup_cons]
      refine ⟨fun h => ?_, remR_nd hn'.2⟩
      obtain ⟨r, hr, e⟩ := List.mem_map.1 h
      exact hn'.1 (List.mem_map.2 ⟨r, ((remR_mem hn'.2).1 hr).1, e⟩)
theorem RI.step {ops : List Oper} {lm : Nat} {rows : List Row} (R : RI ops lm rows) {r : Row} (hr : r ∈ rows) : RI ops (setb lm r.j) (remR r.j rows) := by
  refine ⟨fun x hx => ?_, fun i o ho hb => ?_, fun i hi => ?_, remR_nd R.nd⟩
  · obtain ⟨h1, h2⟩ := (remR_mem R.nd).1 hx
    obtain ⟨q1, q2, q3⟩ := R.row x h1
    refine ⟨q1, Bool.eq_false_iff.2 fun hb => ?_, q3⟩
    rcases (bit_setb _ _ _).1 hb with h | h
    · rw [q2] at h; cases h
    · exact h2 h
  · have hb1 : bit lm i = false := Bool.eq_false_iff.2 fun h => by rw [(bit_setb lm r.j i).2 (.inl h)] at hb; cases hb
    have hb2 : i ≠ r.j := fun e => by rw [(bit_setb lm r.j i).2 (.inr e)] at hb; cases hb
    obtain ⟨x, hx, rfl⟩ := R.all i o ho hb1
    exact ⟨x, (remR_mem R.nd).2 ⟨hx, hb2⟩, rfl⟩
  · rcases (bit_setb _ _ _).1 hi with h | h
    · exact R.lt i h
    · rw [h]; exact (List.getElem?_eq_some_iff.1 (R.row r hr).1).1

section
variable {P : Program} {C : Ctx} {ρ0 : Ren} {Q : Ex → St → Prop} {E : Env}

theorem bothL_den {f : Row → Tree} : ∀ {l : List Row}, (bothL f l).den Q → ∀ j ∈ l, (f j).den Q
  | [], h => h.elim
  | i :: r, h => by
    simp only [bothL] at h
    split at h
    next => intro j hj; simp only [List.mem_singleton] at hj; subst hj; exact h
    next =>
      intro j hj
      rcases List.mem_cons.1 hj with rfl | hj
      · exact h.1
      · exact bothL_den h.2 j hj

theorem chk_snd (hty : ∀ t i, E.ty t = some i → tiOf P t = some i) {tm : Nat} {hp : Heap} {K : Tree} {ρ : Ren} {w : World} (H : Holds C ρ hp w) : ∀ (T : List Tkn), (chk E.ty tm hp K T).den Q → (∀ x ∈ T, ∃ av, x.ad.Rel ρ av) →
    K.den Q ∧ ∀ x ∈ T, bit tm x.k = false → ∀ av u, x.ad.Rel ρ av → x.v.Rel ρ u → detP x.v → (Instr.loadAt x.t av).run P w = .ok u w
  | [], h, _ => ⟨h, by simp⟩
  | y :: r, h, hex => by
    have hexr : ∀ x ∈ r, ∃ av, x.ad.Rel ρ av := fun x hx => hex x (by simp [hx])
    simp only [chk] at h
    split at h
    next hw =>
      obtain ⟨h1, h2⟩ := chk_snd hty H r h hexr
      refine ⟨h1, fun x hx => ?_⟩
      rcases List.mem_cons.1 hx with rfl | hx
      · intro hf; rw [hf] at hw; cases hw
      · exact h2 x hx
    next =>
      have key : ∀ av, y.ad.Rel ρ av → ∃ (z : SV) (u : Value), (chk E.ty tm hp K r).den Q ∧ z.Rel ρ u ∧ (∀ v, z.Rel ρ v → y.v.Rel ρ v) ∧ (Instr.loadAt y.t av).run P w = .ok u w := by
        intro av hav
        obtain ⟨z, u, hk, hz, hrun, _⟩ := ldW_snd hty h H hav
        split at hk
        next he => exact ⟨z, u, hk, hz, fun v hv => eqB_rel he hv, hrun⟩
        next => exact ⟨z, u, hk.2 hk.1, hz, fun v hv => mt_same hk.1 hv, hrun⟩
      obtain ⟨av0, hav0⟩ := hex y (by simp)
      obtain ⟨_, _, hk0, _⟩ := key av0 hav0
      obtain ⟨h1, h2⟩ := chk_snd hty H r hk0 hexr
      refine ⟨h1, fun x hx => ?_⟩
      rcases List.mem_cons.1 hx with rfl | hx
      · intro _ av u hav hu hd
        obtain ⟨z, u1, _, hz, hsame, hrun⟩ := key av hav
        rw [det_eq _ _ _ hd hu (hsame _ hz)]
        exact hrun
      · exact h2 x hx

/-- what has been taken, and the worlds in which it lasts -/
def TOK (P : Program) (ρ : Ren) (T : List Tkn) (Tr : Taken) : Prop :=
  ∀ c ∈ Tr, (∀ w, c.2 w) ∨ ∃ x ∈ T, x.k = c.1 ∧ ∃ av u, x.ad.Rel ρ av ∧ x.v.Rel ρ u ∧ detP x.v ∧ ∀ w', (Instr.loadAt x.t av).run P w' = .ok u w' → c.2 w'
theorem TOK.mono {ρ ρ' : Ren} {T : List Tkn} {Tr : Taken} (h : TOK P ρ T Tr) (hρ : ρ.le ρ') : TOK P ρ' T Tr := by
  intro c hc
  rcases h c hc with h | ⟨x, hx, e, av, u, h1, h2, h3⟩
  · exact .inl h
  · exact .inr ⟨x, hx, e, av, u, SV.Rel.mono hρ _ _ h1, SV.Rel.mono hρ _ _ h2, h3⟩
theorem TOK.cons {ρ : Ren} {T : List Tkn} {Tr : Taken} (h : TOK P ρ T Tr) (j : Nat) : TOK P ρ T ((j, fun _ => True) :: Tr) := by
  intro c hc
  rcases List.mem_cons.1 hc with rfl | hc
  · exact .inl fun _ => trivial
  · exact h c hc
/-- operations that are not ordered are apart -/
def AP (ops : List Oper) : Prop := ∀ i j oi oj, ops[i]? = some oi → ops[j]? = some oj → i ≠ j → oi.apart ops.toArray oj = true ∨ waitsT .any ops.toArray ops.length i j = true ∨ waitsT .any ops.toArray ops.length j i = true

theorem exA_snd (hE : EnvOk P C.B E) (ops : List Oper) (hsel : ∀ o ∈ ops, ∀ cs b, o.op ≠ .select cs b) (hap : AP ops) : ∀ (f : Nat) (q : Bool) (lm : Nat) (rows : List Row) (T : List Tkn) (st : St) (k : St → Tree), (exA E ops f q lm rows T st k).den Q → RI ops lm rows → ∀ (ρ0 : Ren) (Tr : Taken) ρ a w, HS C ρ0 ρ st a w → ClosedL .any ops.toArray (lstA ops.length lm) → (q = false → TOK P ρ T Tr) → (∀ x ∈ T, ∃ av, x.ad.Rel ρ av) → ∀ (Qx : Exit → Act → World → Prop),
    (∀ st' ρ' a' w', Ag (dsts ops) st.tm st'.tm → HS C ρ0 ρ' st' a' w' → (k st').den Q → Qx .normal a' w') → wpAnyJ P .any ops.toArray (NoPanic Qx) ops.length Tr f (lstA ops.length lm) a w
  | 0, q, lm, rows, T, st, k, hk, R, ρ0, Tr, ρ, a, w, H, hcl, hT, hex, Qx, hn => by
    rw [exA_zero] at hk
    split at hk
    next =>
      refine ⟨?_, hn st ρ a w (.refl _ _) H hk⟩
      cases hr : Region.ready .any ops.toArray (lstA ops.length lm) with
      | nil => rfl
      | cons j l =>
        obtain ⟨r, hr', _⟩ := ready_row R (j := j) (by rw [hr]; simp)
        cases hr'
    · exact hk.elim
  | f + 1, q, lm, rows, T, st, k, hk, R, ρ0, Tr, ρ, a, w, H, hcl, hT, hex, Qx, hn => by
    have dmem : ∀ (j : Nat) (o : Oper), ops[j]? = some o → ∀ s ∈ o.dst.toList, s ∈ dsts ops := by
      intro j o ho s hs
      exact gslot_mem (j := j) (by simp only [gslot, ho]; simpa using hs)
    have hsel' : ∀ (j : Nat) (o : Oper) cs b, ops.toArray[j]? = some o → o.op ≠ .select cs b := fun j o cs b ho => hsel o (List.mem_of_getElem? (by simpa using ho)) cs b
    rw [exA_succ] at hk
    split at hk
    next =>
      refine ⟨fun _ => hn st ρ a w (.refl _ _) H hk, fun j hj => ?_⟩
      obtain ⟨r, hr', _⟩ := ready_row R hj
      cases hr'
    next r0 rs =>
      split at hk
      next r hpick =>
        obtain ⟨hrm, hrd⟩ := pickR_some hpick
        have hjm := ready_of R hrm hrd
        obtain ⟨ho, hub, hpm, htm⟩ := R.row r hrm
        have ho' : ops.toArray[r.j]? = some r.o := by simpa using ho
        have hcl' := closed_set hcl hjm
        rw [lstA_set] at hcl'
        have R' := R.step hrm
        have hfree : ∀ j oj, ops.toArray[j]? = some oj → j ≠ r.j → (lstA ops.length lm).getD j true = false → waitsT .any ops.toArray ops.length j r.j = false → r.o.apart ops.toArray oj = true := by
          intro j oj hoj hne hun hnw
          rcases hap r.j j r.o oj ho (by simpa using hoj) (Ne.symm hne) with h | h | h
          · exact h
          · exfalso
            obtain ⟨_, o2, ho2, hall⟩ := mem_ready.1 hjm
            have := waits_listed hcl ops.length r.j o2 ho2 hall h
            rw [lstA_getD] at hun this
            split at hun
            next hlt => rw [if_pos hlt] at this; rw [hun] at this; cases this
            · cases hun
          · rw [hnw] at h; cases h
        obtain ⟨st1, g, H1, hag, hw, hk1⟩ := exG_snd hk H
        have hnP : ∀ (v : Value) (c : List PanicEntry) (a : Act) (w : World), NoPanic Qx (.panic c) (a.put r.o.dst v) w → NoPanic Qx (.panic c) a w := fun _ _ _ _ h => h
        cases g with
        | false =>
          refine wpAnyJ_first (C := fun _ => True) (v := undef) ho' hsel' (hnP _) f _ a w hcl hfree hjm (.inr ⟨hw, rfl⟩) trivial ?_
          rw [lstA_set]
          exact exA_snd hE ops hsel hap f _ _ _ T _ _ hk1 R' ρ0 _ ρ _ w (H1.put r.o.dst (x := .none_) (by simp only [SV.Rel])) hcl' (fun e => (hT e).cons r.j) hex Qx fun st2 ρ2 a2 w2 hag2 H2 hk2 => hn st2 ρ2 a2 w2 ((hag.trans ((put_ag st1.tm r.o.dst .none_).mono (dmem r.j r.o ho))).trans hag2) H2 hk2
        | true =>
          simp only [if_true] at hk1
          split at hk1
          next hq =>
            obtain ⟨x, v, hk2, hx, hrun⟩ := owesV_op hE r.o st1 _ hk1 ρ a H1.tm
            refine wpAnyJ_first (C := fun _ => True) (v := v) ho' hsel' (hnP _) f _ a w hcl hfree hjm (.inl ⟨hw, fun w _ => hrun w⟩) trivial ?_
            rw [lstA_set]
            exact exA_snd hE ops hsel hap f _ _ _ T _ _ hk2 R' ρ0 _ ρ _ w (H1.put r.o.dst hx) hcl' (fun e => (hT e).cons r.j) hex Qx fun st2 ρ2 a2 w2 hag2 H2 hk2 => hn st2 ρ2 a2 w2 ((hag.trans ((put_ag st1.tm r.o.dst x).mono (dmem r.j r.o ho))).trans hag2) H2 hk2
          next =>
            split at hk1
            next t x hop =>
              have hx := opnd_rel H1.tm x
              obtain ⟨y, u, hk2, hy, hrun, _⟩ := ldW_snd hE.ty hk1 H1.hp hx
              have ld : ∀ w', (Instr.loadAt t (a.eval x)).run P w' = .ok u w' → (execOp a.eval r.o).run P w' = .ok (.value u) w' := fun w' h => by simp [execOp, hop, h]
              refine wpAnyJ_first (C := fun w' => (execOp a.eval r.o).run P w' = .ok (.value u) w') (v := u) ho' hsel' (hnP _) f _ a w hcl hfree hjm (.inl ⟨hw, fun w h => h⟩) (ld w hrun) ?_
              rw [lstA_set]
              split at hk2
              next =>
                exact exA_snd hE ops hsel hap f _ _ _ _ _ _ hk2 R' ρ0 _ ρ _ w (H1.put r.o.dst hy) hcl' (fun e => by cases e) hex Qx fun st2 ρ2 a2 w2 hag2 H2 hk2 => hn st2 ρ2 a2 w2 ((hag.trans ((put_ag st1.tm r.o.dst y).mono (dmem r.j r.o ho))).trans hag2) H2 hk2
              next hq0 =>
                obtain ⟨hd, hk2⟩ := needDet_snd hk2 hy
                have hq1 : q = false := by
                  cases q with
                  | false => rfl
                  | true => exact absurd rfl hq0
                have hT := hT hq1
                refine exA_snd hE ops hsel hap f _ _ _ _ _ _ hk2 R' ρ0 _ ρ _ w (H1.put r.o.dst hy) hcl' ?_ ?_ Qx fun st2 ρ2 a2 w2 hag2 H2 hk2 => hn st2 ρ2 a2 w2 ((hag.trans ((put_ag st1.tm r.o.dst y).mono (dmem r.j r.o ho))).trans hag2) H2 hk2
                · intro _ c hc
                  rcases List.mem_cons.1 hc with rfl | hc
                  · exact .inr ⟨_, List.mem_cons_self, rfl, a.eval x, u, hx, hy, hd, ld⟩
                  · rcases hT c hc with h | ⟨z, hz, h⟩
                    · exact .inl h
                    · exact .inr ⟨z, List.mem_cons_of_mem _ hz, h⟩
                · intro z hz
                  rcases List.mem_cons.1 hz with rfl | hz
                  · exact ⟨_, hx⟩
                  · exact hex z hz
            · exact hk1.elim
      next =>
       split at hk
       · exact hk.elim
       next hq0 =>
        have hT : TOK P ρ T Tr := hT (by
          cases q with
          | false => rfl
          | true => exact absurd rfl hq0)
        refine ⟨fun h => ?_, fun j hjm => ?_⟩
        · exfalso
          have : ∃ r, r ∈ candR lm (r0 :: rs) := by
            cases hc : candR lm (r0 :: rs) with
            | nil => rw [hc] at hk; exact hk.elim
            | cons x l => exact ⟨x, by simp⟩
          obtain ⟨r, hr⟩ := this
          have hr1 := candR_sub hr
          have hr2 : rdy lm r = true := by
            have key : ∀ l : List Row, r ∈ candR lm l → rdy lm r = true := by
              intro l
              induction l with
              | nil => intro h; cases h
              | cons x l ih =>
                intro h
                simp only [candR] at h
                split at h
                next hx =>
                  rcases List.mem_cons.1 h with rfl | h
                  · exact hx
                  · exact ih h
                · exact ih h
            exact key _ hr
          have := ready_of R hr1 hr2
          rw [h] at this
          cases this
        · -- one of them, in whatever way it goes on
          have step : ∀ (r : Row) (k' : St → Tree), r ∈ r0 :: rs → rdy lm r = true → (nodeA E ops T st r (fun st' k => exA E ops f false (setb lm r.j) (remR r.j (r0 :: rs)) T st' k) k').den Q →
              ∀ Qx' : Exit → Act → World → Prop, (∀ st' ρ' a' w', Ag (dsts ops) st.tm st'.tm → HS C ρ0 ρ' st' a' w' → (k' st').den Q → Qx' .normal a' w') →
              wpOp P ops.toArray (NoPanic Qx') r.j (fun a' w' => (∀ k ∈ Tr, waitsT .any ops.toArray ops.length r.j k.1 = false → k.2 w → k.2 w') ∧ wpAnyJ P .any ops.toArray (NoPanic Qx') ops.length Tr f ((lstA ops.length lm).setIfInBounds r.j true) a' w') a w := by
            intro r k' hrm hrd hk Qx' hn
            have hjm := ready_of R hrm hrd
            obtain ⟨ho, hub, hpm, htm⟩ := R.row r hrm
            have ho' : ops.toArray[r.j]? = some r.o := by simpa using ho
            have hcl' := closed_set hcl hjm
            rw [lstA_set] at hcl'
            have R' := R.step hrm
            obtain ⟨st1, g, H1, hag, hw, hk1⟩ := exG_snd hk H
            unfold wpOp
            simp only [ho', hw]
            cases g with
            | false =>
              simp only [Bool.false_eq_true, if_false] at hk1 ⊢
              refine ⟨fun _ _ _ h => h, ?_⟩
              rw [lstA_set]
              exact exA_snd hE ops hsel hap f _ _ _ T _ _ hk1 R' ρ0 _ ρ _ w (H1.put r.o.dst (x := .none_) (by simp only [SV.Rel])) hcl' (fun _ => hT) hex Qx' fun st2 ρ2 a2 w2 hag2 H2 hk2 => hn st2 ρ2 a2 w2 ((hag.trans ((put_ag st1.tm r.o.dst .none_).mono (dmem r.j r.o ho))).trans hag2) H2 hk2
            | true =>
              simp only [if_true] at hk1 ⊢
              left
              refine owes_op (ρ0 := ρ) hE r.o st1 _ _ hk1 ρ a w (H1.base (.refl _)) _ _ ?_ ?_
              · intro st' ρ' a' w' hag' H' hk'
                have hex' : ∀ x ∈ T, ∃ av, x.ad.Rel ρ' av := fun x hx => by obtain ⟨av, h⟩ := hex x hx; exact ⟨av, SV.Rel.mono H'.le _ _ h⟩
                obtain ⟨hk2, hall⟩ := chk_snd hE.ty H'.hp T hk' hex'
                have hT' := hT.mono H'.le
                refine ⟨fun c hc hwt _ => ?_, ?_⟩
                · rcases hT' c hc with h | ⟨x, hx, ek, av, u, h1, h2, h3, h4⟩
                  · exact h w'
                  · refine h4 w' (hall x hx (Bool.eq_false_iff.2 fun hb => ?_) av u h1 h2 h3)
                    rw [ek] at hb
                    rw [htm _ hb] at hwt
                    cases hwt
                · rw [lstA_set]
                  exact exA_snd hE ops hsel hap f _ _ _ T _ _ hk2 R' ρ0 _ ρ' _ w' (H'.rebase H1.le) hcl' (fun _ => hT') hex' Qx' fun st2 ρ2 a2 w2 hag2 H2 hk2 => hn st2 ρ2 a2 w2 ((hag.trans (hag'.mono (dmem r.j r.o ho))).trans hag2) H2 hk2
              · intro x v st' ρ' a' w' _ _ _ hk'
                exact hk'.elim
          obtain ⟨r, hrm, rfl, hrd⟩ := ready_row R hjm
          have hrc := candR_mem hrm hrd
          unfold pickT at hk
          split at hk
          next e => rw [e] at hrc; cases hrc
          next c cs e =>
            have hcm : c ∈ candR lm (r0 :: rs) := by rw [e]; simp
            have rdyc : ∀ c ∈ candR lm (r0 :: rs), rdy lm c = true := by
              have key : ∀ l : List Row, ∀ c ∈ candR lm l, rdy lm c = true := by
                intro l
                induction l with
                | nil => intro c h; cases h
                | cons x l ih =>
                  intro c h
                  simp only [candR] at h
                  split at h
                  next hx =>
                    rcases List.mem_cons.1 h with rfl | h
                    · exact hx
                    · exact ih c h
                  · exact ih c h
              exact key _
            split at hk
            next =>
              rw [e] at hrc
              have : r = c := by simpa using hrc
              subst this
              exact step r k hrm hrd hk Qx hn
            next =>
              rw [e] at hrc
              rcases List.mem_cons.1 hrc with rfl | hrc
              · exact step r _ hrm hrd hk Qx fun st' ρ' a' w' hag H' hk' => hn st' ρ' a' w' hag H' hk'.1
              · have hw1 := step c _ (candR_sub hcm) (rdyc c hcm) hk (fun e _ _ => e = .normal ∧ ∃ st1, Ag (dsts ops) st.tm st1.tm ∧ (Tree.both (k st1) (bothL (fun r' => nodeA E ops T st r' (fun st' k => exA E ops f false (setb lm r'.j) (remR r'.j (r0 :: rs)) T st' k) fun st' => joinT st.nx (dsts ops) st' st1) cs)).den Q)
                  fun st' ρ' a' w' hag H' hk' => ⟨rfl, st', hag, hk'⟩
                have : ∃ st1, Ag (dsts ops) st.tm st1.tm ∧ (Tree.both (k st1) (bothL (fun r' => nodeA E ops T st r' (fun st' k => exA E ops f false (setb lm r'.j) (remR r'.j (r0 :: rs)) T st' k) fun st' => joinT st.nx (dsts ops) st' st1) cs)).den Q := by
                  rcases wpOp_ex hw1 with ⟨a1, w1, _, h1⟩ | ⟨e1, a1, w1, h1⟩
                  · obtain ⟨e1, a1, w1, h1⟩ := wpAnyJ_ex _ _ _ _ h1
                    exact (NoPanic.imp _ _ _ h1).2
                  · exact (NoPanic.imp _ _ _ h1).2
                obtain ⟨st1, hag1, hk1, hk2⟩ := this
                refine step r _ hrm hrd (bothL_den hk2 r hrc) Qx fun st' ρ' a' w' hag H' hk' => ?_
                obtain ⟨ρ2, H2⟩ := (joinT_snd hk').hs H H' hag hag1
                exact hn st1 ρ2 a' w' hag1 H2 hk1

/-- a region that draws -/
noncomputable def exR (E : Env) (ops : List Oper) (st : St) (k : St → Tree) : Tree :=
  if chkR ops (mkRows ops 0 []) then exA E ops ops.length false 0 (mkRows ops 0 []) [] st k else .fail 280
theorem exR_snd (hE : EnvOk P C.B E) {id : Nat} {ops : Array Oper} {k : St → Tree} {st : St} (hk : (exR E ops.toList st k).den Q) {ρ : Ren} {a : Act} {w : World} (H : HS C ρ0 ρ st a w) {Qx : Exit → Act → World → Prop}
    (hn : ∀ st' ρ' a' w', Ag (dsts ops.toList) st.tm st'.tm → HS C ρ0 ρ' st' a' w' → (k st').den Q → Qx .normal a' w') : (Code.region id ops true).wp P Qx a w := by
  unfold exR at hk
  split at hk
  next hs =>
    unfold chkR at hs
    simp only [Bool.and_eq_true] at hs
    obtain ⟨hs1, hs2⟩ := hs
    have hspec := mkRows_spec (ops := ops.toList) ops.toList 0 [] rfl rfl (fun i k h => by rw [getN_eq] at h; simp [bit_eq] at h)
    have jlt : ∀ r ∈ mkRows ops.toList 0 [], r.j < ops.toList.length := fun r hr => (List.getElem?_eq_some_iff.1 (hspec.1 r hr).1).1
    have tms : ∀ r ∈ mkRows ops.toList 0 [], ∀ k, bit r.tm k = true → waitsT .any ops.toList.toArray ops.toList.length r.j k = true := fun r hr k hb => waitsT_le (by have := jlt r hr; omega) ((hspec.1 r hr).2.2.2 k hb)
    have nd : ∀ (l : List Oper) (j : Nat) (acc : List Nat), ((mkRows l j acc).map (·.j)).Nodup ∧ ∀ r ∈ mkRows l j acc, j ≤ r.j := by
      intro l
      induction l with
      | nil => intro j acc; exact ⟨by simp [mkRows], by simp [mkRows]⟩
      | cons o l ih =>
        intro j acc
        obtain ⟨h1, h2⟩ := ih (j + 1) (acc ++ [tmL acc o.after.toList])
        refine ⟨?_, fun r hr => ?_⟩
        · simp only [mkRows, List.map_cons, List.nodup_cons]
          refine ⟨fun h => ?_, h1⟩
          obtain ⟨r, hr, e⟩ := List.mem_map.1 h
          have := h2 r hr
          omega
        · simp only [mkRows, List.mem_cons] at hr
          rcases hr with rfl | hr
          · exact Nat.le_refl _
          · have := h2 r hr; omega
    have R : RI ops.toList 0 (mkRows ops.toList 0 []) := by
      refine ⟨fun r hr => ⟨(hspec.1 r hr).1, by simp [bit_eq], (hspec.1 r hr).2.2.1, tms r hr⟩, fun i o ho _ => ?_, fun i h => by simp [bit_eq] at h, (nd _ _ _).1⟩
      obtain ⟨r, hr, h1, _⟩ := hspec.2 i o (Nat.zero_le _) ho
      exact ⟨r, hr, h1⟩
    have hap : AP ops.toList := by
      intro i j oi oj hoi hoj hne
      obtain ⟨ri, hri, rfl, rfl⟩ := hspec.2 i oi (Nat.zero_le _) hoi
      obtain ⟨rj, hrj, rfl, rfl⟩ := hspec.2 j oj (Nat.zero_le _) hoj
      have hmi : (⟨ri.j, laM ops.toList.toArray ri.o, dM ri.o, ri.tm⟩ : NRow) ∈ nrows ops.toList.toArray (mkRows ops.toList 0 []) := List.mem_map.2 ⟨ri, hri, rfl⟩
      have hmj : (⟨rj.j, laM ops.toList.toArray rj.o, dM rj.o, rj.tm⟩ : NRow) ∈ nrows ops.toList.toArray (mkRows ops.toList 0 []) := List.mem_map.2 ⟨rj, hrj, rfl⟩
      have pr : ∀ (x y : Row), x ∈ mkRows ops.toList 0 [] → y ∈ mkRows ops.toList 0 [] → pairOk ⟨x.j, laM ops.toList.toArray x.o, dM x.o, x.tm⟩ ⟨y.j, laM ops.toList.toArray y.o, dM y.o, y.tm⟩ = true →
          x.o.apart ops.toList.toArray y.o = true ∨ waitsT .any ops.toList.toArray ops.toList.length x.j y.j = true ∨ waitsT .any ops.toList.toArray ops.toList.length y.j x.j = true := by
        intro x y hx hy h
        unfold pairOk at h
        simp only [Bool.or_eq_true, Bool.and_eq_true] at h
        rcases h with ⟨h1, h2⟩ | h | h
        · exact .inl (apart_of h1 h2)
        · exact .inr (.inr (tms y hy _ h))
        · exact .inr (.inl (tms x hx _ h))
      rcases pairsOk_spec hs1 _ hmi _ hmj with h | h | h
      · exact absurd (congrArg NRow.j h) hne
      · exact pr ri rj hri hrj h
      · rcases pr rj ri hrj hri h with h | h | h
        · exact .inl (apart_symm h)
        · exact .inr (.inr h)
        · exact .inr (.inl h)
    refine wp_region_noPanic (wp_region_J (N := ops.toList.length) hE.mx ?_)
    have := exA_snd hE ops.toList (noSel_spec hs2) hap ops.toList.length false 0 _ [] st k hk R ρ0 [] ρ a { w with drawn := w.drawn + 1 } (H.quiet (Fr.drew (.refl _ _))) (by rw [lstA_zero]; exact closed_start _) (by intro _ c hc; cases hc) (by intro x hx; cases hx) Qx hn
    rw [lstA_zero] at this
    simpa using this
  · exact hk.elim
end
end SX
end Go.Proofs.YtnjaaagiindclaaGreatDoor

/-
  SX: code. No program in sight.
-/
namespace Go.Proofs.YtnjaaagiindclaaGreatDoor
open Go.RowKit Go.Deep
namespace SX

/-! a loop whose measure hangs on a witness -/
theorem exists_least {p : Nat → Prop} (h : ∃ n, p n) : ∃ n, p n ∧ ∀ m, p m → n ≤ m := by
  obtain ⟨n, hn⟩ := h
  induction n using Nat.strongRecOn with
  | _ n ih =>
    by_cases hc : ∃ m, m < n ∧ p m
    · obtain ⟨m, h1, h2⟩ := hc; exact ih m h1 h2
    · exact ⟨n, hn, fun m hm => Nat.le_of_not_lt fun hlt => hc ⟨m, hlt, hm⟩⟩
open Classical in
noncomputable def leastN (p : Nat → Prop) : Nat := if h : ∃ n, p n then Classical.choose (exists_least h) else 0
theorem leastN_spec {p : Nat → Prop} (h : ∃ n, p n) : p (leastN p) ∧ ∀ m, p m → leastN p ≤ m := by
  unfold leastN
  rw [dif_pos h]
  exact Classical.choose_spec (exists_least h)
theorem wp_loop_ex {P : Program} {Q : Exit → Act → World → Prop} {a : Act} {w : World} {c : Code} {X : Type} (T : X → Act → World → Prop) (μ : X → Nat) (h0 : ∃ x, T x a w)
    (round : ∀ x a w, T x a w → c.wp P (Exit.then (fun a' w' => ∃ y, T y a' w' ∧ μ y < μ x) Q) a w) : (Code.loop c).wp P Q a w := by
  refine wp_loop (fun a w => ∃ x, T x a w) (fun a w => leastN fun n => ∃ x, T x a w ∧ μ x = n) h0 fun a w h => ?_
  obtain ⟨x0, hx0⟩ := h
  obtain ⟨⟨x, hx, hm⟩, _⟩ := leastN_spec (p := fun n => ∃ x, T x a w ∧ μ x = n) ⟨μ x0, x0, hx0, rfl⟩
  refine wp_mono (round x a w hx) fun e a' w' hq => ?_
  cases e with
  | normal =>
    obtain ⟨y, hy, hlt⟩ := hq
    refine ⟨⟨y, hy⟩, ?_⟩
    have := (leastN_spec (p := fun n => ∃ x, T x a' w' ∧ μ x = n) ⟨μ y, y, hy, rfl⟩).2 (μ y) ⟨y, hy, rfl⟩
    show leastN _ < leastN _
    rw [← hm]
    omega
  | _ => exact hq


/-! a loop, round by round -/
def lwp (P : Program) (c : Code) (Q : Exit → Act → World → Prop) (a : Act) (w : World) : Prop :=
  ∀ (b : Frame) (k : List Item) (cs : List Frame), ∃ e a' w', Q e a' w' ∧ Arrives P (lone (b.at a (.code c :: .inLoop c :: k)) cs w) b k cs e a' w'
theorem wp_of_lwp {P : Program} {Q : Exit → Act → World → Prop} {a : Act} {w : World} {c : Code} (h : lwp P c Q a w) : (Code.loop c).wp P Q a w := by
  intro b k cs
  obtain ⟨e, a', w', hq, harr⟩ := h b k cs
  exact ⟨e, a', w', hq, .of_steps (.one step_loop) harr⟩
theorem lwp_step {P : Program} {Q : Exit → Act → World → Prop} {a : Act} {w : World} {c : Code} (h : c.wp P (Exit.then (lwp P c Q) Q) a w) : lwp P c Q a w := by
  intro b k cs
  obtain ⟨e, a₁, w₁, hq, harr⟩ := h b (.inLoop c :: k) cs
  cases e with
  | normal =>
    obtain ⟨e₂, a₂, w₂, hq₂, harr₂⟩ := hq b k cs
    exact ⟨e₂, a₂, w₂, hq₂, .of_steps (Steps.trans harr (.one step_inLoop)) harr₂⟩
  | exit id => exact ⟨_, a₁, w₁, hq, .pass (x := .inLoop c) rfl (fun _ _ => .inl (by simp)) harr⟩
  | goto l => exact ⟨_, a₁, w₁, hq, .pass (x := .inLoop c) rfl (fun _ _ => .inl (by simp)) harr⟩
  | ret => exact ⟨_, a₁, w₁, hq, .pass (x := .inLoop c) rfl (fun _ _ => .inl (by simp)) harr⟩
  | panic ch => exact ⟨_, a₁, w₁, hq, .pass (x := .inLoop c) rfl (fun _ _ => .inl (by simp)) harr⟩
  | outgrown => exact ⟨_, a₁, w₁, hq, .pass (x := .inLoop c) rfl (fun _ _ => .inl (by simp)) harr⟩

/-! slots at a loop's head -/
noncomputable def junks : List Nat → Slots → Slots
  | [], l => l
  | j :: r, l => swr (junks r l) j .junk
noncomputable def ovl : List Nat → List SV → Slots → Slots
  | j :: r, v :: vs, l => sset (ovl r vs l) j v
  | _, _, l => l
theorem junks_n (ws : List Nat) (l : Slots) : (junks ws l).n = l.n := by
  induction ws with
  | nil => rfl
  | cons j r ih => simp only [junks, swr_n, ih]
theorem junks_get (ws : List Nat) (l : Slots) (j : Nat) : sget (junks ws l) j = .junk ∨ (j ∉ ws ∧ sget (junks ws l) j = sget l j) := by
  induction ws with
  | nil => right; exact ⟨by simp, rfl⟩
  | cons i r ih =>
    simp only [junks]
    by_cases h : j = i
    · left; subst h
      rcases sget_wr (junks r l) j .junk with e | e
      · exact e
      · exact sget_out _ _ e
    · rw [sget_wr_ne _ _ _ _ h]
      rcases ih with e | ⟨e1, e2⟩
      · exact .inl e
      · exact .inr ⟨by simp [h, e1], e2⟩
theorem swr_ag (l : Slots) (i : Nat) (v : SV) : Ag [i] l (swr l i v) := ⟨swr_n _ _ _, fun j hj => sget_wr_ne _ _ _ _ (by simpa using hj)⟩
theorem ovl_ag : ∀ (sl : List Nat) (vs : List SV) (l : Slots), Ag sl l (ovl sl vs l)
  | j :: r, v :: vs, l => by
    simp only [ovl]
    exact ((ovl_ag r vs l).mono (fun x hx => by simp [hx])).trans ((put_ag _ (some j) v).mono (by simp))
  | [], _, l => by simp only [ovl]; exact .refl _ _
  | _ :: _, [], l => by simp only [ovl]; exact .refl _ _
theorem ovl_rel {ρ : Ren} {us : List Value} : ∀ (sl : List Nat) (vs : List SV) (l : Slots), RelS ρ l us → RelL ρ vs (sl.map fun j => us.getD j undef) → RelS ρ (ovl sl vs l) us
  | j :: r, v :: vs, l, h, hv => by
    simp only [List.map_cons] at hv
    simp only [ovl]
    exact (ovl_rel r vs l h hv.uncons.2).reset j hv.uncons.1
  | [], _, l, h, _ => by simp only [ovl]; exact h
  | _ :: _, [], l, h, _ => by simp only [ovl]; exact h
theorem junks_ag (ws : List Nat) (l : Slots) : Ag ws l (junks ws l) := by
  induction ws with
  | nil => exact .refl _ _
  | cons i r ih =>
    simp only [junks]
    exact (ih.mono fun x hx => by simp [hx]).trans ((swr_ag _ i .junk).mono (by simp))

/-! code -/
def wr : Code → List Nat
  | .region _ ops _ => dsts ops.toList
  | .seq a b => wr a ++ wr b
  | .cond _ a b => wr a ++ wr b
  | .block _ c => wr c
  | .loop c => wr c
  | .scope c => wr c
  | _ => []
def memN (l : List Nat) (j : Nat) : Bool := match l with
  | [] => false
  | x :: l => Nat.beq x j || memN l j
def subN (ws : List Nat) : List Nat → Bool
  | [] => true
  | j :: l => memN ws j && subN ws l
theorem memN_mem {l : List Nat} {j : Nat} (h : memN l j = true) : j ∈ l := by
  induction l with
  | nil => simp [memN] at h
  | cons x l ih =>
    simp only [memN, Bool.or_eq_true] at h
    rcases h with h | h
    · have := Nat.eq_of_beq_eq_true h; subst this; simp
    · simp [ih h]
theorem subN_sub {ws l : List Nat} (h : subN ws l = true) : ∀ j ∈ l, j ∈ ws := by
  induction l with
  | nil => simp
  | cons x l ih =>
    simp only [subN, Bool.and_eq_true] at h
    intro j hj
    rcases List.mem_cons.1 hj with rfl | hj
    · exact memN_mem h.1
    · exact ih h.2 j hj


abbrev Kont := Ex → St → Tree
def kn (f : St → Tree) (K : Kont) : Kont := fun e st => match e with
  | .n => f st
  | .x i => K (.x i) st
  | .r => K .r st
  | .p v => K (.p v) st
def kb (i : Nat) (K : Kont) : Kont := fun e st => match e with
  | .n => K .n st
  | .x j => if Nat.beq j i then K .n st else K (.x j) st
  | .r => K .r st
  | .p v => K (.p v) st
noncomputable def headS (I : Inv) (ws : List Nat) (st : St) (x : I.α) : St := ⟨ovl I.sl (I.tm x) (junks ws st.tm), I.hp x st.hp, st.nx + I.ids, []⟩
/-- a loop is come to -/
def Enter (I : Inv) (st : St) : Prop := ∃ x, I.p x ∧ mtS st.nx (st.nx + I.ids) (I.sl.map (sget st.tm)) st.hp (I.tm x) (I.hp x st.hp)
/-- a round is over -/
def Back (I : Inv) (st : St) (x : I.α) (st' : St) : Prop := ∃ y, I.p y ∧ I.μ y < I.μ x ∧ mtS st.nx (st.nx + I.ids) (I.sl.map (sget st'.tm)) st'.hp (I.tm y) (I.hp y st.hp)
def noD (st : St) (T : Tree) : Tree := match st.df with | [] => T | _ => .fail 245
/-- round by round -/
noncomputable def rounds (body : Kont → St → Tree) (K : Kont) : Nat → St → Tree :=
  Nat.rec (motive := fun _ => St → Tree) (fun _ => .fail 242) (fun _ ih st => body (kn ih K) st)
noncomputable def exC (E : Env) : Code → Nat → Kont → St → Tree
  | .skip, _, K, st => K .n st
  | .label _, _, K, st => K .n st
  | .ret, _, K, st => K .r st
  | .exit i, _, K, st => K (.x i) st
  | .seq a b, lb, K, st => exC E a lb (kn (fun st => exC E b lb K st) K) st
  | .cond c a b, lb, K, st => (match opnd st.tm c with
    | .tt => exC E a lb K st
    | .ff => exC E b lb K st
    | .b x => .split x (exC E a lb K st) (exC E b lb K st)
    | _ => .fail 240)
  | .block i c, _, K, st => exC E c i (kb i K) st
  | .scope c, lb, K, st => exC E c lb K st
  | .loop c, lb, K, st => (match E.inv lb with
    | some Iv => noD st (if subN (wr c) Iv.sl then
        .need (Enter Iv st) (.all Iv.p fun x => exC E c lb (kn (fun st' => noD st' (.need (Back Iv st x st') .stop)) K) (headS Iv (wr c) st x))
      else .fail 241)
    | none => rounds (fun K st => exC E c lb K st) K E.fuel st)
  | .region _ ops dr, _, K, st => if dr then exR E ops.toList st (K .n) else exL E ops.toList ops.toList st (K .n) (fun v => K (.p v))
  | _, _, _, _ => .fail 244

/-- how one leaves -/
def ExR (ρ : Ren) : Ex → Exit → Prop
  | .n, e => e = .normal
  | .x i, e => e = .exit i
  | .r, e => e = .ret
  | .p x, e => ∃ v, SV.Rel ρ x v ∧ e = .panic [{ v, recovered := false }]
/-- what is asked of what follows -/
def KOk (C : Ctx) (ρ0 : Ren) (Q : Ex → St → Prop) (K : Kont) (ws : List Nat) (tm : Slots) (Qx : Exit → Act → World → Prop) : Prop :=
  ∀ e ex st' ρ' a' w', ExR ρ' e ex → Ag ws tm st'.tm → HS C ρ0 ρ' st' a' w' → (K e st').den Q → Qx ex a' w'

section
variable {P : Program} {C : Ctx} {Q : Ex → St → Prop} {E : Env}
theorem KOk.sub {ρ0 : Ren} {K : Kont} {ws us : List Nat} {tm tm' : Slots} {Qx : Exit → Act → World → Prop} (h : KOk C ρ0 Q K ws tm Qx) (ha : Ag ws tm tm') (hs : ∀ j ∈ us, j ∈ ws) : KOk C ρ0 Q K us tm' Qx :=
  fun e ex st' ρ' a' w' hx hag H hk => h e ex st' ρ' a' w' hx (ha.trans (hag.mono hs)) H hk
theorem noD_snd {st : St} {T : Tree} (h : (noD st T).den Q) : st.df = [] ∧ T.den Q := by
  unfold noD at h
  split at h
  next e => exact ⟨e, h⟩
  · exact h.elim
theorem kn_snd {ρ0 : Ren} {f : St → Tree} {K : Kont} {ws : List Nat} {tm : Slots} {nx Qx : Exit → Act → World → Prop} (hK : KOk C ρ0 Q K ws tm Qx)
    (hn : ∀ st' ρ' a' w', Ag ws tm st'.tm → HS C ρ0 ρ' st' a' w' → (f st').den Q → nx .normal a' w') (hx : ∀ e a w, e ≠ .normal → Qx e a w → nx e a w) : KOk C ρ0 Q (kn f K) ws tm nx := by
  intro e ex st' ρ' a' w' he hag H hk
  cases e with
  | n => cases he; exact hn st' ρ' a' w' hag H hk
  | x i => exact hx _ _ _ (by cases he; simp) (hK (.x i) ex st' ρ' a' w' he hag H hk)
  | r => exact hx _ _ _ (by cases he; simp) (hK .r ex st' ρ' a' w' he hag H hk)
  | p v => exact hx _ _ _ (by obtain ⟨_, _, rfl⟩ := he; simp) (hK (.p v) ex st' ρ' a' w' he hag H hk)

theorem exC_snd (hE : EnvOk P C.B E) : ∀ (c : Code) (lb : Nat) (K : Kont) (st : St), (exC E c lb K st).den Q → ∀ (ρ0 : Ren) ρ a w, HS C ρ0 ρ st a w → ∀ Qx : Exit → Act → World → Prop, KOk C ρ0 Q K (wr c) st.tm Qx → c.wp P Qx a w := by
  intro c
  induction c with
  | skip => intro lb K st hk ρ0 ρ a w H Qx hK; exact Go.wp_skip (hK .n _ st ρ a w rfl (.refl _ _) H hk)
  | label l => intro lb K st hk ρ0 ρ a w H Qx hK; exact wp_label (hK .n _ st ρ a w rfl (.refl _ _) H hk)
  | ret => intro lb K st hk ρ0 ρ a w H Qx hK; exact wp_ret (hK .r _ st ρ a w rfl (.refl _ _) H hk)
  | exit i => intro lb K st hk ρ0 ρ a w H Qx hK; exact wp_exit (hK (.x i) _ st ρ a w rfl (.refl _ _) H hk)
  | seq x y ihx ihy =>
    intro lb K st hk ρ0 ρ a w H Qx hK
    refine wp_seq (ihx lb _ st hk ρ0 ρ a w H _ ?_)
    have hs : ∀ j ∈ wr x, j ∈ wr (x.seq y) := fun j hj => by simp only [wr, List.mem_append]; exact .inl hj
    refine kn_snd (hK.sub (.refl _ _) hs) (fun st' ρ' a' w' hag H' hk' => ?_) (fun e a w he h => by cases e <;> first | exact absurd rfl he | exact h)
    exact ihy lb K st' hk' ρ0 ρ' a' w' H' Qx (hK.sub (hag.mono hs) fun j hj => by simp only [wr, List.mem_append]; exact .inr hj)
  | cond c x y ihx ihy =>
    intro lb K st hk ρ0 ρ a w H Qx hK
    have hv := opnd_rel H.tm c
    simp only [exC] at hk
    have KX : KOk C ρ0 Q K (wr x) st.tm Qx := hK.sub (.refl _ _) fun j hj => by simp only [wr, List.mem_append]; exact .inl hj
    have KY : KOk C ρ0 Q K (wr y) st.tm Qx := hK.sub (.refl _ _) fun j hj => by simp only [wr, List.mem_append]; exact .inr hj
    split at hk
    next e => rw [e] at hv; simp only [SV.Rel] at hv; exact wp_cond_true hv (ihx lb K st hk ρ0 ρ a w H Qx KX)
    next e => rw [e] at hv; simp only [SV.Rel] at hv; exact wp_cond_false hv (ihy lb K st hk ρ0 ρ a w H Qx KY)
    next t e =>
      rw [e] at hv
      simp only [SV.Rel] at hv
      exact wp_cond_split hv (fun ht => ihx lb K st (hk.1 ht) ρ0 ρ a w H Qx KX) (fun ht => ihy lb K st (hk.2 ht) ρ0 ρ a w H Qx KY)
    · exact hk.elim
  | block i c ih =>
    intro lb K st hk ρ0 ρ a w H Qx hK
    refine wp_block (ih i (kb i K) st hk ρ0 ρ a w H _ ?_)
    intro e ex st' ρ' a' w' he hag H' hk'
    cases e with
    | n => cases he; exact hK .n _ st' ρ' a' w' rfl hag H' hk'
    | r => cases he; exact hK .r _ st' ρ' a' w' rfl hag H' hk'
    | p v => obtain ⟨u, hu, rfl⟩ := he; exact hK (.p v) _ st' ρ' a' w' ⟨u, hu, rfl⟩ hag H' hk'
    | x j =>
      cases he
      simp only [kb] at hk'
      show Exit.inBlock i Qx (.exit j) a' w'
      simp only [Exit.inBlock]
      split at hk'
      next hj => rw [if_pos (Nat.eq_of_beq_eq_true hj)]; exact hK .n _ st' ρ' a' w' rfl hag H' hk'
      next hj => rw [if_neg (fun e => hj (by rw [e]; exact Nat.beq_refl i))]; exact hK (.x j) _ st' ρ' a' w' rfl hag H' hk'
  | scope c ih =>
    intro lb K st hk ρ0 ρ a w H Qx hK
    refine wp_scope_straight (ih lb K st hk ρ0 ρ a w H _ ?_)
    intro e ex st' ρ' a' w' he hag H' hk'
    cases e with
    | n => cases he; exact hK .n _ st' ρ' a' w' rfl hag H' hk'
    | r => cases he; exact hK .r _ st' ρ' a' w' rfl hag H' hk'
    | p v => obtain ⟨u, hu, rfl⟩ := he; exact hK (.p v) _ st' ρ' a' w' ⟨u, hu, rfl⟩ hag H' hk'
    | x j => cases he; exact hK (.x j) _ st' ρ' a' w' rfl hag H' hk'
  | loop c ih =>
    intro lb K st hk ρ0 ρ a w H Qx hK
    simp only [exC] at hk
    split at hk
    next Iv hIv =>
      obtain ⟨hd0, hk⟩ := noD_snd hk
      split at hk
      next hb =>
        have hsub := subN_sub hb
        obtain ⟨⟨x0, hp0, hm0⟩, hbody⟩ := hk
        have hbody := hbody ⟨x0, hp0, hm0⟩
        have jr : ∀ {ρ1 ρ2 : Ren} {tm1 : Slots} {us : List Value}, RelS ρ1 tm1 us → tm1.n = st.tm.n → (∀ j, j ∉ wr c → sget tm1 j = sget st.tm j) → (∀ b, b < st.nx → ρ2 b = ρ1 b) → RelS ρ2 (junks (wr c) st.tm) us := by
          intro ρ1 ρ2 tm1 us hr hl hj hρ
          refine ⟨(junks_n _ _).trans (hl.symm.trans hr.1), fun j => ?_⟩
          rcases junks_get (wr c) st.tm j with e | ⟨e1, e2⟩
          · rw [e]; simp only [SV.Rel]
          · rw [e2]
            have := hr.get j
            rw [hj j e1] at this
            exact SV.Rel.carry H.bd hρ _ _ _ (H.tm.get j) this
        have le0 : ∀ {ρ1 ρ2 : Ren}, ρ0.le ρ1 → (∀ b, b < st.nx → ρ2 b = ρ1 b) → ρ0.le ρ2 := by
          intro ρ1 ρ2 h1 h2 b x hbx
          have hlt : b < st.nx := H.bd.lt (H.le b x hbx)
          rw [h2 b hlt]
          exact h1 b x hbx
        refine wp_loop_ex (fun x a w => Iv.p x ∧ ∃ ρ', HS C ρ0 ρ' (headS Iv (wr c) st x) a w) Iv.μ ?_ ?_
        · obtain ⟨ρ', hag, hbd, hh, ht⟩ := mtS_snd hm0 H.hp (Nat.le_add_right _ _)
          refine ⟨x0, hp0, ρ', hh, ?_, ?_, hbd, le0 H.le hag⟩
          · exact ovl_rel _ _ _ (jr H.tm rfl (fun _ _ => rfl) hag) (ht _ (RelL.map fun j _ => H.tm.get j))
          · have := H.df
            rw [hd0] at this
            exact this
        · rintro x a w ⟨hpx, ρ1, H1⟩
          refine ih lb _ _ (hbody x hpx) ρ0 ρ1 a w H1 _ ?_
          have hagc : ∀ {tm'}, Ag (wr c) (headS Iv (wr c) st x).tm tm' → Ag (wr c) st.tm tm' := fun hag => ((junks_ag (wr c) st.tm).trans ((ovl_ag Iv.sl (Iv.tm x) (junks (wr c) st.tm)).mono hsub)).trans hag
          refine kn_snd (hK.sub (hagc (.refl _ _)) fun j hj => hj) (fun st' ρ' a' w' hag H' hk' => ?_) (fun e a w he h => by cases e <;> first | exact absurd rfl he | exact h)
          obtain ⟨hd', hk'⟩ := noD_snd hk'
          obtain ⟨y, hpy, hμ, hm⟩ := hk'.1
          have hag := hagc hag
          obtain ⟨ρ2, hag2, hbd, hh, ht⟩ := mtS_snd hm H'.hp (Nat.le_add_right _ _)
          refine ⟨y, ⟨hpy, ρ2, hh, ovl_rel _ _ _ (jr H'.tm hag.1 hag.2 hag2) (ht _ (RelL.map fun j _ => H'.tm.get j)), ?_, hbd, le0 H'.le hag2⟩, hμ⟩
          have := H'.df
          rw [hd'] at this
          exact this
      · exact hk.elim
    next =>
      refine wp_of_lwp ?_
      have key : ∀ (f : Nat) (st1 : St) (ρ1 : Ren) (a1 : Act) (w1 : World), Ag (wr c) st.tm st1.tm → HS C ρ0 ρ1 st1 a1 w1 → (rounds (fun K st => exC E c lb K st) K f st1).den Q → lwp P c Qx a1 w1 := by
        intro f
        induction f with
        | zero => intro st1 ρ1 a1 w1 _ _ hk; exact hk.elim
        | succ f ihf =>
          intro st1 ρ1 a1 w1 hag H1 hk1
          refine lwp_step (ih lb _ st1 hk1 ρ0 ρ1 a1 w1 H1 _ ?_)
          exact kn_snd (hK.sub hag fun j hj => hj) (fun st' ρ' a' w' hag' H' hk' => ihf st' ρ' a' w' (hag.trans hag') H' hk') (fun e a w he h => by cases e <;> first | exact absurd rfl he | exact h)
      exact key E.fuel st ρ a w (.refl _ _) H hk
  | region id ops dr =>
    intro lb K st hk ρ0 ρ a w H Qx hK
    simp only [exC] at hk
    split at hk
    next hdr =>
      subst hdr
      exact exR_snd hE hk H fun st' ρ' a' w' hag H' hk' => hK .n _ st' ρ' a' w' rfl hag H' hk'
    next hdr =>
      have hdr : dr = false := by simpa using hdr
      subst hdr
      exact wp_region_list (exL_snd hE ops.toList (K .n) (fun v => K (.p v)) ops.toList (fun _ h => h) st hk ρ a w H Qx (fun st' ρ' a' w' hag H' hk' => hK .n _ st' ρ' a' w' rfl hag H' hk')
        (fun x v st' ρ' a' w' hag hx H' hk' => hK (.p x) _ st' ρ' a' w' ⟨v, hx, rfl⟩ hag H' hk'))
  | _ => intro lb K st hk; exact hk.elim
end
end SX
end Go.Proofs.YtnjaaagiindclaaGreatDoor

/-
  SX: functions. No program in sight.
-/
namespace Go.Proofs.YtnjaaagiindclaaGreatDoor
open Go.RowKit Go.Deep
namespace SX

section
variable {P : Program} {C : Ctx} {Q : Ex → St → Prop} {E : Env}

/-! results -/
noncomputable def resT (ty : TypeId → Option TI) (tm : Slots) (h : Heap) : List ResultVar → (List SV → Tree) → Tree
  | [], K => K []
  | r :: l, K => match r with
    | .tmp t => resT ty tm h l fun vs => K (sget tm t :: vs)
    | .cell a t => ldW ty h t (sget tm a) fun v => resT ty tm h l fun vs => K (v :: vs)
def resOf (tmps : Array Value) : ResultVar → Sem Value
  | .tmp t => pure (tmps.getD t undef)
  | .cell a t => do loadVar t (← asAddr (tmps.getD a undef))
theorem resT_snd (hty : ∀ t i, E.ty t = some i → tiOf P t = some i) {tm : Slots} {h : Heap} {ρ : Ren} {tmps : Array Value} {w : World} (H : RelS ρ tm tmps.toList) (Hh : Holds C ρ h w) : ∀ (l : List ResultVar) (K : List SV → Tree), (resT E.ty tm h l K).den Q →
    ∃ xs us, (K xs).den Q ∧ RelL ρ xs us ∧ (l.mapM (resOf tmps)).run P w = .ok us w
  | [], K, hk => ⟨[], [], hk, .nil, by simp⟩
  | r :: l, K, hk => by
    have hg : ∀ t, (sget tm t).Rel ρ (tmps.getD t undef) := fun t => by
      have := H.get t
      rw [show tmps.getD t undef = tmps.toList.getD t undef from by simp [Array.getD_eq_getD_getElem?]]
      exact this
    cases r with
    | tmp t =>
      obtain ⟨xs, us, h1, h2, h3⟩ := resT_snd hty H Hh l _ hk
      exact ⟨_, _, h1, .cons (hg t) h2, by simp [List.mapM_cons, resOf, h3]⟩
    | cell b t =>
      simp only [resT] at hk
      obtain ⟨y, u, hk, hr, _, hrun⟩ := ldW_snd hty hk Hh (hg b)
      obtain ⟨xs, us, h1, h2, h3⟩ := resT_snd hty H Hh l _ hk
      refine ⟨_, _, h1, .cons hr h2, ?_⟩
      have hrun' : (resOf tmps (.cell b t)).run P w = .ok u w := hrun
      simp [List.mapM_cons, hrun', h3]

def resV : List SV → SV
  | [x] => x
  | l => .tup l
theorem results_snd {fn : Func} {tmps : Array Value} {w : World} {ρ : Ren} {xs : List SV} {us : List Value} (h : (fn.results.toList.mapM (resOf tmps)).run P w = .ok us w) (hr : RelL ρ xs us) :
    ∃ v, (results fn tmps).run P w = .ok v w ∧ (resV xs).Rel ρ v := by
  have e : (results fn tmps).run P w = .ok (if h : us.toArray.size = 1 then us.toArray[0] else .tuple us.toArray) w := by
    have e1 : results fn tmps = (do let vs ← fn.results.mapM (resOf tmps); pure (if h : vs.size = 1 then vs[0] else .tuple vs)) := rfl
    rw [e1, Array.mapM_eq_mapM_toList]
    simp [h]
  refine ⟨_, e, ?_⟩
  match xs, us, hr with
  | [], us, hr =>
    simp only [RelL] at hr
    subst hr
    simp only [resV, SV.Rel]
    exact ⟨#[], by simp, .nil⟩
  | [x], us, hr =>
    simp only [RelL] at hr
    obtain ⟨v, q, rfl, h1, rfl⟩ := hr
    simpa [resV] using h1
  | x :: y :: l, us, hr =>
    have hl := hr.length
    simp only [resV, SV.Rel]
    refine ⟨us.toArray, ?_, by simpa using hr⟩
    rw [dif_neg]
    simp only [List.length_cons] at hl
    simp only [List.size_toArray]
    omega

/-! deferred calls -/
/-- a deferred call's contract: arguments, heap, next number, whether one panics; what follows -/
abbrev DSpec := List SV → Heap → Nat → Option SV → (Option SV → Heap → Nat → Tree) → Tree
def Mode (ρ : Ren) : Option SV → FrameMode → Prop
  | none, m => m = .returning
  | some x, m => ∃ v, SV.Rel ρ x v ∧ m = .panicking [{ v, recovered := false }]
structure DSpecOk (P : Program) (𝔅 : BigRep) (f : FuncId) (sp : DSpec) : Prop where
  enter : ∀ w args, (callFunc f args).run P w = .ok (.enter f args) w
  calls : ∀ (C : Ctx) (Q : Ex → St → Prop) (args : List SV) (h : Heap) (n : Nat) (u : Option SV) (K : Option SV → Heap → Nat → Tree), C.B = 𝔅 → (sp args h n u K).den Q →
    ∀ (ρ : Ren) (w : World) (vs : Array Value) (m : FrameMode), RelL ρ args vs.toList → Holds C ρ h w → ρ.bd n → Mode ρ u m →
      CallsD P f vs m w fun e m' w' => ∃ v u' h' n' ρ', e = .returned v ∧ Mode ρ' u' (settle m') ∧ Holds C ρ' h' w' ∧ ρ.le ρ' ∧ ρ'.bd n' ∧ (K u' h' n').den Q

noncomputable def leaveT (ty : TypeId → Option TI) (ds : FuncId → Option DSpec) (rs : List ResultVar) (tm : Slots) (K : Bool → SV → Heap → Nat → Tree) : List Dfd → Option SV → Heap → Nat → Tree
  | [], u, h, n => (match u with
    | none => resT ty tm h rs fun l => K true (resV l) h n
    | some v => K false v h n)
  | d :: l, u, h, n => (match ds d.f with
    | some sp => sp (d.args ++ d.cap) h n u fun u h n => leaveT ty ds rs tm K l u h n
    | none => .fail (2000 + d.f))
theorem Mode.ne_run {ρ : Ren} {u : Option SV} {m : FrameMode} (h : Mode ρ u m) : m ≠ .run := by
  cases u with
  | none => rw [show m = .returning from h]; simp
  | some x => obtain ⟨v, _, rfl⟩ := h; simp
theorem leaveT_snd (hty : ∀ t i, E.ty t = some i → tiOf P t = some i) {ds : FuncId → Option DSpec} (hds : ∀ f sp, ds f = some sp → DSpecOk P C.B f sp) {fn : Func} {tm : Slots} {K : Bool → SV → Heap → Nat → Tree} {tmps : Array Value} {ρ0 : Ren} :
    ∀ (l : List Dfd) (u : Option SV) (h : Heap) (n : Nat), (leaveT E.ty ds fn.results.toList tm K l u h n).den Q → ∀ (ρ : Ren) (w : World) (dl : List Deferred) (m : FrameMode), RelS ρ tm tmps.toList → Holds C ρ h w → ρ.bd n → ρ0.le ρ → DfR ρ l dl → Mode ρ u m →
      Leaves P fn tmps (fun e w' => ∃ b v x h' n' ρ', e = Ended b v ∧ SV.Rel ρ' x v ∧ Holds C ρ' h' w' ∧ ρ0.le ρ' ∧ ρ'.bd n' ∧ (K b x h' n').den Q) dl m w
  | [], u, h, n, hk, ρ, w, dl, m, Ht, Hh, hbd, hle, hdf, hm => by
    have hdl : dl = [] := hdf
    subst hdl
    cases u with
    | none =>
      have hm' : m = .returning := hm
      subst hm'
      obtain ⟨xs, us, h1, h2, h3⟩ := resT_snd hty Ht Hh _ _ hk
      obtain ⟨v, h4, h5⟩ := results_snd h3 h2
      exact ⟨v, h4, true, v, _, h, n, ρ, rfl, h5, Hh, hle, hbd, h1⟩
    | some x =>
      obtain ⟨v, hv, rfl⟩ := hm
      exact ⟨false, v, x, h, n, ρ, rfl, hv, Hh, hle, hbd, hk⟩
  | d :: l, u, h, n, hk, ρ, w, dl, m, Ht, Hh, hbd, hle, hdf, hm => by
    obtain ⟨q, r, rfl, ⟨cs, ht, hcap⟩, hargs, hrest⟩ := hdf
    simp only [leaveT] at hk
    split at hk
    next sp hs =>
      have hok := hds _ _ hs
      refine ⟨hm.ne_run, .func d.f, cs, d.f, q.args ++ cs, ht, by rw [ht]; simp [invoke, hok.enter], ?_⟩
      refine CallsD.mono (hok.calls C Q _ _ _ _ _ rfl hk ρ w (q.args ++ cs) m (by rw [Array.toList_append]; exact hargs.append hcap) Hh hbd hm) ?_
      rintro e m' w' ⟨v, u', h', n', ρ', rfl, hm', hh', hle', hbd', hk'⟩
      exact leaveT_snd hty hds l u' h' n' hk' ρ' w' r _ (RelS.mono hle' Ht) hh' hbd' (hle.trans hle') (hrest.mono hle') hm'
    · exact hk.elim

/-! a function's tree -/
noncomputable def finK (ty : TypeId → Option TI) (ds : FuncId → Option DSpec) (fn : Func) (K : Bool → SV → Heap → Nat → Tree) : Kont := fun e st => match e with
  | .x _ => .fail 252
  | .n => leaveT ty ds fn.results.toList st.tm K st.df none st.hp st.nx
  | .r => leaveT ty ds fn.results.toList st.tm K st.df none st.hp st.nx
  | .p v => leaveT ty ds fn.results.toList st.tm K st.df (some v) st.hp st.nx
noncomputable def fr0 (fn : Func) (args : List SV) : Slots := setsS 0 args (blank (args.length + (fn.ntmps - args.length)))
noncomputable def fnT (E : Env) (ds : FuncId → Option DSpec) (fn : Func) (c : Code) : Spec := fun args h n K => exC E c 0 (finK E.ty ds fn K) ⟨fr0 fn args, h, n, []⟩
theorem fr0_rel {ρ : Ren} {fn : Func} {args : List SV} {vs : Array Value} (hv : RelL ρ args vs.toList) : RelS ρ (fr0 fn args) (vs ++ Array.replicate (fn.ntmps - vs.size) undef).toList := by
  unfold fr0
  simp only [Array.toList_append, Array.toList_replicate]
  have := setsS_blank hv (fn.ntmps - args.length)
  have hl : args.length = vs.size := by rw [hv.length, Array.length_toList]
  rw [← hl]
  exact this

theorem fnT_calls (hE : EnvOk P C.B E) {ds : FuncId → Option DSpec} (hds : ∀ f sp, ds f = some sp → DSpecOk P C.B f sp) {f : FuncId} {fn : Func} {c : Code} (hf : P.funcs[f]? = some fn) (hb : fn.body = some c)
    {args : List SV} {h : Heap} {n : Nat} {K : Bool → SV → Heap → Nat → Tree} (hk : (fnT E ds fn c args h n K).den Q) {ρ : Ren} {w : World} {vs : Array Value} (hv : RelL ρ args vs.toList) (hH : Holds C ρ h w) (hbd : ρ.bd n) :
    Calls P f vs w fun e w' => ∃ b v x h' n' ρ', e = Ended b v ∧ SV.Rel ρ' x v ∧ Holds C ρ' h' w' ∧ ρ.le ρ' ∧ ρ'.bd n' ∧ (K b x h' n').den Q := by
  refine calls_of_wp_defers hf hb (exC_snd hE c 0 _ _ hk ρ ρ _ w ⟨hH, fr0_rel hv, (show DfR ρ [] [] from rfl), hbd, .refl _⟩ _ ?_)
  intro e ex st' ρ' a' w' he _ H' hk'
  have go : ∀ u m, Mode ρ' u m → (leaveT E.ty ds fn.results.toList st'.tm K st'.df u st'.hp st'.nx).den Q → Leaves P fn a'.tmps (fun e w' => ∃ b v x h' n' ρ', e = Ended b v ∧ SV.Rel ρ' x v ∧ Holds C ρ' h' w' ∧ ρ.le ρ' ∧ ρ'.bd n' ∧ (K b x h' n').den Q) a'.defers m w' :=
    fun u m hm hk => leaveT_snd hE.ty hds st'.df u st'.hp st'.nx hk ρ' w' a'.defers m H'.tm H'.hp H'.bd H'.le H'.df hm
  cases e with
  | x i => exact hk'.elim
  | n => cases he; exact go none _ rfl hk'
  | r => cases he; exact go none _ rfl hk'
  | p x => obtain ⟨v, hv, rfl⟩ := he; exact go (some x) _ ⟨v, hv, rfl⟩ hk'
theorem enter_of {f : FuncId} {fn : Func} {c : Code} (hf : P.funcs[f]? = some fn) (hb : fn.body = some c) (hname : (fn.name == "runtime.NumGoroutine") = false) (w : World) (args : Array Value) : (callFunc f args).run P w = .ok (.enter f args) w := by
  have hn : ¬ fn.name = "runtime.NumGoroutine" := by simpa using hname
  simp [callFunc, hf, hn, hb]
theorem spec_fn {𝔅 : BigRep} (hE : EnvOk P 𝔅 E) {ds : FuncId → Option DSpec} (hds : ∀ f sp, ds f = some sp → DSpecOk P 𝔅 f sp) {f : FuncId} {fn : Func} {c : Code} (hf : P.funcs[f]? = some fn) (hb : fn.body = some c) (hname : (fn.name == "runtime.NumGoroutine") = false) :
    SpecOk P 𝔅 f (fnT E ds fn c) := .inl {
  enter := enter_of hf hb hname
  calls := by
    intro C Q args h n K hB hk ρ w vs hv hH hbd
    subst hB
    exact fnT_calls hE hds hf hb hk hv hH hbd }
/-- a contract of which the function's tree follows -/
theorem SpecOk.imp {𝔅 : BigRep} {f : FuncId} {sp sp' : Spec} (h : SpecOk P 𝔅 f sp) (hs : ∀ (Q : Ex → St → Prop) args h n K, (sp' args h n K).den Q → (sp args h n K).den Q) : SpecOk P 𝔅 f sp' :=
  Or.imp (fun h => ⟨h.enter, fun C Q args hp n K hB hk => h.calls C Q args hp n K hB (hs Q args hp n K hk)⟩) (fun h Q args hp n K hk => h Q args hp n K (hs Q args hp n K hk)) h

/-! a deferred function's tree -/
noncomputable def finD (ty : TypeId → Option TI) (fn : Func) (u : Option SV) (K : Option SV → Heap → Nat → Tree) : Kont := fun e st => match e with
  | .x _ => .fail 260
  | .n => noD st (resT ty st.tm st.hp fn.results.toList fun _ => K u st.hp st.nx)
  | .r => noD st (resT ty st.tm st.hp fn.results.toList fun _ => K u st.hp st.nx)
  | .p _ => .fail 261
/-- one that recovers at first: where to, and what follows -/
def recOf : Code → Option (Nat × Array Oper × Option Nat × Code)
  | .seq (.region id ops false) c => (match ops.toList with
    | [o] => (match o.op with
      | .call cl => (match cl.callee with
        | .builtin .recover => (match o.guard with | none => some (id, ops, o.dst, c) | some _ => none)
        | _ => none)
      | _ => none)
    | _ => none)
  | _ => none
def rec0 (u : Option SV) : SV := match u with | none => .ni | some v => v
noncomputable def fnD (E : Env) (fn : Func) (c : Code) : DSpec := fun args h n u K => match recOf c with
  | some x => exC E x.2.2.2 0 (finD E.ty fn none K) ⟨put (fr0 fn args) x.2.2.1 (rec0 u), h, n, []⟩
  | none => exC E c 0 (finD E.ty fn u K) ⟨fr0 fn args, h, n, []⟩
theorem recOf_some {c : Code} {x : Nat × Array Oper × Option Nat × Code} (h : recOf c = some x) : c = .seq (.region x.1 x.2.1 false) x.2.2.2 ∧ ∃ o, x.2.1 = #[o] ∧ o.guard = none ∧ o.dst = x.2.2.1 ∧ ∃ cl, o.op = .call cl ∧ cl.callee = .builtin .recover := by
  unfold recOf at h
  split at h
  next id ops c =>
    split at h
    next o ho =>
      split at h
      next cl hop =>
        split at h
        next hc =>
          split at h
          next hg =>
            simp only [Option.some.injEq] at h
            subst h
            exact ⟨rfl, o, arr1 ho, hg, rfl, cl, hop, hc⟩
          · cases h
        · cases h
      · cases h
    · cases h
  · cases h
theorem settle_mode {ρ : Ren} {u : Option SV} {m : FrameMode} (h : Mode ρ u m) : settle m = m := by
  cases u with
  | none => rw [show m = .returning from h]; rfl
  | some x => obtain ⟨v, _, rfl⟩ := h; rfl

theorem dspec_fn {𝔅 : BigRep} (hE : EnvOk P 𝔅 E) {f : FuncId} {fn : Func} {c : Code} (hf : P.funcs[f]? = some fn) (hb : fn.body = some c) (hname : (fn.name == "runtime.NumGoroutine") = false) :
    DSpecOk P 𝔅 f (fnD E fn c) where
  enter := enter_of hf hb hname
  calls := by
    intro C Q args h n u K hB hk ρ w vs m hv hH hbd hm
    subst hB
    unfold fnD at hk
    split at hk
    next x hx =>
      obtain ⟨rfl, o, ho, hg, hd, cl, hop, hcl⟩ := recOf_some hx
      refine callsD_of_wpS hf hb fun c₀ cs hc₀ => wpS_seq (wpS_region ?_)
      have hw : Region.wanted o (yielded x.2.1 (vs ++ Array.replicate (fn.ntmps - vs.size) undef)) = true := by simp [Region.wanted, hg]
      have hrun : (execOp ({ tmps := vs ++ Array.replicate (fn.ntmps - vs.size) undef, defers := [] } : Act).eval o).run P w = .ok .recover w := by
        simp [execOp, hop, resolve, hcl, invoke, builtin]
      have ho0 : x.2.1[0]? = some o := by rw [ho]; rfl
      have hsz : x.2.1.size = 1 := by rw [ho]; rfl
      rw [hsz]
      simp only [List.range_succ, List.range_zero, List.nil_append, wpOpsS, ho0, hw, if_true, hrun]
      have fin : ∀ (v : Value) (m' : FrameMode), settle m' = .returning → (rec0 u).Rel ρ v →
          Exit.thenS (Code.wpS P x.2.2.2 (bodyPostS P fn c₀ cs fun e m' w' => ∃ v u' h' n' ρ', e = Ending.returned v ∧ Mode ρ' u' (settle m') ∧ Holds C ρ' h' w' ∧ ρ.le ρ' ∧ ρ'.bd n' ∧ (K u' h' n').den Q))
            (bodyPostS P fn c₀ cs fun e m' w' => ∃ v u' h' n' ρ', e = Ending.returned v ∧ Mode ρ' u' (settle m') ∧ Holds C ρ' h' w' ∧ ρ.le ρ' ∧ ρ'.bd n' ∧ (K u' h' n').den Q) .normal
            (({ tmps := vs ++ Array.replicate (fn.ntmps - vs.size) undef, defers := [] } : Act).put o.dst v) ({ c₀ with mode := m' } :: cs) w := by
        intro v m' hm' hv'
        show Code.wpS P x.2.2.2 _ _ _ w
        refine wpS_of_wp (exC_snd hE x.2.2.2 0 _ _ hk ρ ρ _ w ⟨hH, ?_, ?_, hbd, .refl _⟩ _ ?_)
        · rw [hd]; exact put_rel (a := { tmps := vs ++ Array.replicate (fn.ntmps - vs.size) undef, defers := [] }) (fr0_rel hv) _ hv'
        · rw [put_df]; rfl
        · intro e ex st' ρ' a' w' he _ H' hk'
          have key : (noD st' (resT E.ty st'.tm st'.hp fn.results.toList fun _ => K none st'.hp st'.nx)).den Q →
              a'.defers = [] ∧ ∃ u', ({ c₀ with mode := m' } :: cs : List Frame) = { c₀ with mode := u' } :: cs ∧ ∃ v, (results fn a'.tmps).run P w' = .ok v w' ∧ ∃ v1 u1 h' n' ρ', Ending.returned v = Ending.returned v1 ∧ Mode ρ' u1 (settle u') ∧ Holds C ρ' h' w' ∧ ρ.le ρ' ∧ ρ'.bd n' ∧ (K u1 h' n').den Q := by
            intro hk'
            obtain ⟨hd', hk'⟩ := noD_snd hk'
            obtain ⟨xs, us, h1, h2, h3⟩ := resT_snd hE.ty H'.tm H'.hp _ _ hk'
            obtain ⟨v2, h4, h5⟩ := results_snd h3 h2
            have hdf := H'.df
            rw [hd'] at hdf
            exact ⟨hdf, m', rfl, v2, h4, v2, none, st'.hp, st'.nx, ρ', rfl, hm', H'.hp, H'.le, H'.bd, h1⟩
          cases e with
          | x i => exact hk'.elim
          | n => cases he; exact key hk'
          | r => cases he; exact key hk'
          | p x => exact hk'.elim
      cases u with
      | none =>
        have hm' : m = .returning := hm
        subst hm'
        have e : recoverD (c₀ :: cs) = none := by simp [recoverD, hc₀]
        simp only [e]
        have := fin .nilIface .returning rfl (by simp only [rec0, SV.Rel])
        rwa [show ({ c₀ with mode := .returning } : Frame) = c₀ from by rw [← hc₀]] at this
      | some y =>
        obtain ⟨v, hv', rfl⟩ := hm
        have e : recoverD (c₀ :: cs) = some (v, { c₀ with mode := .panicking [{ v, recovered := true }] } :: cs) := by simp [recoverD, hc₀]
        simp only [e]
        exact fin v (.panicking [{ v, recovered := true }]) rfl hv'
    next =>
      refine CallsD.mono (callsD_of_wp (R := fun e w' => ∃ v u' h' n' ρ', e = Ending.returned v ∧ Mode ρ' u' m ∧ Holds C ρ' h' w' ∧ ρ.le ρ' ∧ ρ'.bd n' ∧ (K u' h' n').den Q) hf hb (exC_snd hE c 0 _ _ hk ρ ρ _ w ⟨hH, fr0_rel hv, (show DfR ρ [] [] from rfl), hbd, .refl _⟩ _ ?_)) ?_
      · intro e ex st' ρ' a' w' he _ H' hk'
        have hmm : Mode ρ' u m := by
          cases u with
          | none => exact hm
          | some x => obtain ⟨v, hx, e⟩ := hm; exact ⟨v, SV.Rel.mono H'.le _ _ hx, e⟩
        have key : (noD st' (resT E.ty st'.tm st'.hp fn.results.toList fun _ => K u st'.hp st'.nx)).den Q →
            a'.defers = [] ∧ ∃ v, (results fn a'.tmps).run P w' = .ok v w' ∧ ∃ v1 u' h' n' ρ', Ending.returned v = Ending.returned v1 ∧ Mode ρ' u' m ∧ Holds C ρ' h' w' ∧ ρ.le ρ' ∧ ρ'.bd n' ∧ (K u' h' n').den Q := by
          intro hk'
          obtain ⟨hd', hk'⟩ := noD_snd hk'
          obtain ⟨xs, us, h1, h2, h3⟩ := resT_snd hE.ty H'.tm H'.hp _ _ hk'
          obtain ⟨v2, h4, h5⟩ := results_snd h3 h2
          have hdf := H'.df
          rw [hd'] at hdf
          exact ⟨hdf, v2, h4, v2, u, st'.hp, st'.nx, ρ', rfl, hmm, H'.hp, H'.le, H'.bd, h1⟩
        cases e with
        | x i => exact hk'.elim
        | n => cases he; exact key hk'
        | r => cases he; exact key hk'
        | p x => exact hk'.elim
      · rintro e m' w' ⟨rfl, v, u', h', n', ρ', rfl, hm', rest⟩
        exact ⟨v, u', h', n', ρ', rfl, by rw [settle_mode hm']; exact hm', rest⟩
end
end SX
end Go.Proofs.YtnjaaagiindclaaGreatDoor
