/-
  Part 16 of what the statement leans on: Zd, Tb, WA1, WA2, WA3, WA4, WA5, Awk, Swp, Let, Cmp.
-/
import Derived.Test.YtnjaaagiindclaaGreatDoorPk13
import Derived.Test.YtnjaaagiindclaaGreatDoorPk15
import Derived.Deep.RegionWith
import Derived.Deep.QuietTactic
import Derived.Deep.RegionHeld3
import Derived.StillTailTactics
import Derived.Shelf.SlSortCmp.QuietGrown
/-
  Calls of a closed run, one behind the other: what comes of each, told as numbers. The program's machine, as fresh makes it.
-/
namespace Go.Proofs.YtnjaaagiindclaaGreatDoor
open Go.RowKit Go.Deep
namespace SX
/-! results that are known numbers and truths -/
def dec1v (k : Option IntKind) (x : SV) : Option Nat := match k with
  | some k => (match numOf x with
    | some p => (match p.2 with
      | .ofNat n => if isK p.1 k then some n else none
      | .negSucc _ => none)
    | none => none)
  | none => (match boolOf x with
    | some b => some (match b with | true => 1 | false => 0)
    | none => none)
def val1 (k : Option IntKind) (n : Nat) : Value := match k with
  | some k => .int k (n : Int)
  | none => .bool (Nat.beq n 1)
theorem dec1v_rel {k : Option IntKind} {x : SV} {n : Nat} (h : dec1v k x = some n) {ρ : Ren} {v : Value} (hv : x.Rel ρ v) : v = val1 k n := by
  unfold dec1v at h
  cases k with
  | some k =>
    simp only at h
    split at h
    next p hp =>
      split at h
      next m hm =>
        split at h
        next hk =>
          cases h
          obtain ⟨k', z⟩ := p
          simp only at hm hk
          subst hm
          rw [isK_eq hk] at hp
          exact numOf_rel hp hv
        · cases h
      · cases h
    · cases h
  | none =>
    simp only at h
    split at h
    next b hb =>
      cases h
      rw [boolOf_rel hb hv]
      cases b <;> rfl
    · cases h
def decL : List (Option IntKind) → List SV → Option (List Nat)
  | [], l => (match l with | [] => some [] | _ :: _ => none)
  | k :: ks, l => (match l with
    | [] => none
    | x :: l => (match dec1v k x with
      | some n => (match decL ks l with
        | some ns => some (n :: ns)
        | none => none)
      | none => none))
def valL : List (Option IntKind) → List Nat → List Value
  | k :: ks, n :: ns => val1 k n :: valL ks ns
  | _, _ => []
theorem decL_rel : ∀ {ks : List (Option IntKind)} {l : List SV} {ns : List Nat}, decL ks l = some ns → ns.length = ks.length ∧ ∀ {ρ : Ren} {vs : List Value}, RelL ρ l vs → vs = valL ks ns
  | [], l, ns, h => by
    unfold decL at h
    split at h
    · cases h; exact ⟨rfl, fun hv => by simp only [RelL] at hv; exact hv⟩
    · cases h
  | k :: ks, l, ns, h => by
    unfold decL at h
    split at h
    · cases h
    next x l =>
      split at h
      next n hn =>
        split at h
        next ms hms =>
          cases h
          obtain ⟨h1, h2⟩ := decL_rel hms
          refine ⟨by simp [h1], fun hv => ?_⟩
          simp only [RelL] at hv
          obtain ⟨v, r, rfl, hx, hr⟩ := hv
          rw [dec1v_rel hn hx, h2 hr]
          rfl
        · cases h
      · cases h
/-- the form of a result -/
inductive Sh
  | s (k : Option IntKind)
  | a (ks : List (Option IntKind))
  | t (ks : List (Option IntKind)) (k : Option IntKind)
def Sh.len : Sh → Nat
  | .s _ => 1
  | .a ks => ks.length
  | .t ks _ => ks.length + 1
def Sh.val : Sh → List Nat → Value
  | .s k, ns => val1 k (ns.getD 0 0)
  | .a ks, ns => .agg (valL ks ns).toArray
  | .t ks k, ns => .tuple #[.agg (valL ks ns).toArray, val1 k (ns.getLastD 0)]
def decT (ks : List (Option IntKind)) (k : Option IntKind) : List SV → Option (List Nat)
  | [] => none
  | a :: r => (match r with
    | [] => none
    | e :: q => (match q with
      | [] => (match a with
        | .agg l => (match decL ks l with
          | some ns => (match dec1v k e with
            | some m => some (ns ++ [m])
            | none => none)
          | none => none)
        | _ => none)
      | _ :: _ => none))
def Sh.dec (sh : Sh) (x : SV) : Option (List Nat) := match sh with
  | .s k => (match dec1v k x with | some n => some [n] | none => none)
  | .a ks => (match x with | .agg l => decL ks l | _ => none)
  | .t ks k => (match x with | .tup l => decT ks k l | _ => none)
theorem valL_app : ∀ {ks : List (Option IntKind)} {ns : List Nat} (m : List Nat), ns.length = ks.length → valL ks (ns ++ m) = valL ks ns
  | [], [], m, _ => by cases m <;> rfl
  | k :: ks, n :: ns, m, h => by
    show val1 k n :: valL ks (ns ++ m) = val1 k n :: valL ks ns
    rw [valL_app m (by simpa using h)]
theorem Sh.dec_rel {sh : Sh} {x : SV} {ns : List Nat} (h : sh.dec x = some ns) : ns.length = sh.len ∧ ∀ {ρ : Ren} {v : Value}, x.Rel ρ v → v = sh.val ns := by
  unfold Sh.dec at h
  cases sh with
  | s k =>
    simp only at h
    split at h
    next n hn => cases h; exact ⟨rfl, fun hv => dec1v_rel hn hv⟩
    · cases h
  | a ks =>
    simp only at h
    split at h
    next l =>
      obtain ⟨h1, h2⟩ := decL_rel h
      refine ⟨h1, fun hv => ?_⟩
      simp only [SV.Rel] at hv
      obtain ⟨cs, rfl, hcs⟩ := hv
      show Value.agg cs = .agg (valL ks ns).toArray
      rw [← h2 hcs]
    · cases h
  | t ks k =>
    simp only at h
    split at h
    next l =>
      unfold decT at h
      split at h <;> try cases h
      split at h <;> try cases h
      split at h <;> try cases h
      split at h <;> try cases h
      split at h <;> try cases h
      split at h <;> try cases h
      rename_i e0 _ _ l0 _ ms hms _ m hm
      obtain ⟨h1, h2⟩ := decL_rel hms
      refine ⟨by simp [Sh.len, h1], fun hv => ?_⟩
      simp only [SV.Rel, RelL] at hv
      obtain ⟨cs, rfl, v1, r1, e1, ⟨cs0, rfl, has⟩, v2, r2, rfl, hv2, rfl⟩ := hv
      show Value.tuple cs = .tuple #[.agg (valL ks (ms ++ [m])).toArray, val1 k ((ms ++ [m]).getLastD 0)]
      rw [valL_app _ h1, show (ms ++ [m]).getLastD 0 = m from by simp, ← h2 has, ← dec1v_rel hm hv2]
      rw [show cs = #[.agg cs0, v2] from by rw [← Array.toList_inj, e1]]
    · cases h
noncomputable def resN (sh : Sh) (x : SV) (k : List Nat → Tree) : Tree := match sh.dec x with
  | some ns => k ns
  | none => .fail 991
theorem resN_den {sh : Sh} {x : SV} {k : List Nat → Tree} {Q : Ex → St → Prop} (h : (resN sh x k).den Q) : ∃ ns, ns.length = sh.len ∧ (∀ {ρ : Ren} {v : Value}, x.Rel ρ v → v = sh.val ns) ∧ (k ns).den Q := by
  unfold resN at h
  split at h
  next ns hns => exact ⟨ns, (Sh.dec_rel hns).1, (Sh.dec_rel hns).2, h⟩
  · exact h.elim
variable {P : Program} {C : Ctx} {f : FuncId} {sp : Spec} {g N1 N2 : Nat} {w : World}
/-- a call, and what comes of it -/
noncomputable def stepT (sp : Spec) (args : List SV) (sh : Sh) (T : List Nat → Heap → Nat → Tree) : Heap → Nat → Tree := fun h n => sp args h n fun b x h1 n1 => okN b (resN sh x fun ns => T ns h1 n1)
theorem step_h (hs : SpecEnters P C.B f sp) {args : List SV} {vs : Array Value} (ha : ∀ ρ, Ids ρ g N1 N2 → RelL ρ args vs.toList) (sh : Sh) {T : List Nat → Heap → Nat → Tree}
    (h : Sd C g N1 N2 (stepT sp args sh T) w) : Calls P f vs w fun e w' => ∃ ns : List Nat, ns.length = sh.len ∧ e = .returned (sh.val ns) ∧ Sd C g N1 N2 (T ns) w' := by
  obtain ⟨ρ, h, n, hH, hbd, hI, hd⟩ := h
  refine (hs.calls C _ _ h n _ rfl hd ρ w vs (ha ρ hI) hH hbd).mono ?_
  rintro e w' ⟨b, v, x, h1, n1, ρ', rfl, hx, hH', hle, hbd', hk⟩
  obtain ⟨rfl, hk1⟩ := okN_den hk
  obtain ⟨ns, hn, hv, hk2⟩ := resN_den hk1
  exact ⟨ns, hn, by rw [hv hx]; rfl, ρ', h1, n1, hH', hbd', hI.mono hle, hk2⟩
/-- a call, with a row of one number -/
noncomputable def stepV (sp : Spec) (args : SV → List SV) (z : Nat) (sh : Sh) (T : List Nat → Heap → Nat → Tree) : Heap → Nat → Tree := fun h n =>
  sp (args (.sl true n 1 0 1 (.c 1))) ((n, .vec 22 1 [.l .u64 (z : Int)] (.c 1)) :: h) (n + 1) fun b x h1 n1 => okN b (resN sh x fun ns => T ns h1 n1)
theorem stepV_h {I : World} {R : List Grp} {B : BigRep} (hs : SpecEnters P B f sp) {args : SV → List SV} {vs : Value → Array Value} {z : Nat} (ha : ∀ ρ s v, Ids ρ g N1 N2 → SV.Rel ρ s v → RelL ρ (args s) (vs v).toList) (sh : Sh) {T : List Nat → Heap → Nat → Tree}
    {s s0 : Nat} (h0 : s0 = s) (h : Sd ⟨I, [(s0, .cells #[.int .u64 (z : Int)] 22 (0, 0))] :: R, B⟩ g N1 N2 (stepV sp args z sh T) w) :
    Calls P f (vs (.slice (some ⟨s, 0, none⟩) 1 1)) w fun e w' => ∃ ns : List Nat, ns.length = sh.len ∧ e = .returned (sh.val ns) ∧ Sd ⟨I, R, B⟩ g N1 N2 (T ns) w' := by
  subst h0
  obtain ⟨ρ, h, n, hH, hbd, hI, hd⟩ := h
  have hle0 : ρ.le (upd ρ n s0) := upd_le (hbd _ (Nat.le_refl _))
  refine (hs.calls ⟨I, R, B⟩ _ _ _ (n + 1) _ rfl hd (upd ρ n s0) w (vs (.slice (some ⟨s0, 0, none⟩) 1 1)) (ha _ _ _ (hI.mono hle0) ?_) ?_ (upd_bd hbd)).mono ?_
  · simp only [SV.Rel]
    exact ⟨_, _, rfl, rfl, Nat.le_refl _, fun _ => ⟨s0, upd_at _ _ _, fun _ => by rw [Nat.zero_mul]⟩⟩
  · obtain ⟨Gs, hr, hp⟩ := hH
    refine ⟨_ :: Gs, ⟨_, Gs, rfl, ⟨1, rfl, Nat.le_refl _, by simp [maxLen], .inr ⟨s0, _, upd_at _ _ _, rfl, rfl, ?_⟩⟩, hr.mono hle0⟩, hp.permG List.perm_middle⟩
    exact .cons (by simp only [SV.Rel]) .nil
  rintro e w' ⟨b, v, x, h1, n1, ρ', rfl, hx, hH', hle, hbd', hk⟩
  obtain ⟨rfl, hk1⟩ := okN_den hk
  obtain ⟨ns, hn, hv, hk2⟩ := resN_den hk1
  exact ⟨ns, hn, by rw [hv hx]; rfl, ρ', h1, n1, hH', hbd', hI.mono (hle0.trans hle), hk2⟩
/-- a row, as long as is known -/
noncomputable def lenN (x : SV) (k : Nat → Tree) : Tree := match x with
  | .sl lit _ _ _ len _ => if lit then k len else .fail 992
  | .ns => k 0
  | _ => .fail 993
theorem lenN_den {x : SV} {k : Nat → Tree} {Q : Ex → St → Prop} (h : (lenN x k).den Q) : ∃ n, (∀ {ρ : Ren} {v : Value}, x.Rel ρ v → ∃ a c, v = .slice a n c ∧ n ≤ c) ∧ (k n).den Q := by
  unfold lenN at h
  split at h
  next lit b sz frm len cap =>
    split at h
    · refine ⟨len, fun hv => ?_, h⟩
      simp only [SV.Rel] at hv
      obtain ⟨a, c, rfl, _, hl, _⟩ := hv
      exact ⟨a, c, rfl, hl⟩
    · exact h.elim
  · refine ⟨0, fun hv => ?_, h⟩
    simp only [SV.Rel] at hv
    exact ⟨none, 0, hv, Nat.le_refl _⟩
  · exact h.elim
noncomputable def stepL (sp : Spec) (args : List SV) (T : Nat → Heap → Nat → Tree) : Heap → Nat → Tree := fun h n => sp args h n fun b x h1 n1 => okN b (lenN x fun k => T k h1 n1)
theorem stepL_h (hs : SpecEnters P C.B f sp) {args : List SV} {vs : Array Value} (ha : ∀ ρ, Ids ρ g N1 N2 → RelL ρ args vs.toList) {T : Nat → Heap → Nat → Tree}
    (h : Sd C g N1 N2 (stepL sp args T) w) : Calls P f vs w fun e w' => ∃ (k : Nat) (a : Option Addr) (c : Nat), e = .returned (.slice a k c) ∧ k ≤ c ∧ Sd C g N1 N2 (T k) w' := by
  obtain ⟨ρ, h, n, hH, hbd, hI, hd⟩ := h
  refine (hs.calls C _ _ h n _ rfl hd ρ w vs (ha ρ hI) hH hbd).mono ?_
  rintro e w' ⟨b, v, x, h1, n1, ρ', rfl, hx, hH', hle, hbd', hk⟩
  obtain ⟨rfl, hk1⟩ := okN_den hk
  obtain ⟨k, hv, hk2⟩ := lenN_den hk1
  obtain ⟨a, c, rfl, hkc⟩ := hv hx
  exact ⟨k, a, c, rfl, hkc, ρ', h1, n1, hH', hbd', hI.mono hle, hk2⟩
end SX
end Go.Proofs.YtnjaaagiindclaaGreatDoor

/-
  The table's rows; a fresh machine. No condition.
-/
namespace Go.Proofs.YtnjaaagiindclaaGreatDoor
open Go.RowKit Go.Deep
namespace SX
def vecOf : Heap → List SV
  | (_, .vec _ _ l _) :: _ => l
  | _ => []
def toV : SV → Value
  | .l k n => .int k n
  | _ => undef
def isL : SV → Bool
  | .l _ _ => true
  | _ => false
theorem toV_rel {ρ : Ren} : ∀ {l : List SV} {vs : List Value}, l.all isL = true → RelL ρ l vs → vs = l.map toV
  | [], vs, _, h => h
  | x :: l, vs, ha, h => by
    obtain ⟨v, r, rfl, hx, hr⟩ := h
    rw [List.all_cons, Bool.and_eq_true] at ha
    rw [List.map_cons, ← toV_rel ha.2 hr]
    cases x <;> first | cases ha.1 | skip
    simp only [SV.Rel] at hx
    rw [hx]
    rfl
noncomputable def TBs : List SV := vecOf TBh
noncomputable def TBl : List Value := TBs.map toV
theorem TBs_ok : TBs.all isL = true := by kernel_rfl
theorem TBs_len : TBs.length = 272 := by kernel_rfl
theorem TB_form : TBh = [(200, .vec 34 4 TBs (.o 201 0))] := by kernel_rfl
theorem TBv_form : TBv = .sl true 200 4 0 68 (.o 201 0) := by kernel_rfl
theorem table_h (w : World) : Calls Tryz.prog 10 #[] w fun e w' => ∃ (g c : Nat) (cc : Array Value), e = .returned (.slice (some ⟨g, 0, none⟩) 68 c) ∧ 68 ≤ c ∧ (∀ (j : Nat) (u : Value), TBl[j]? = some u → cc[j]? = some u) ∧ Hp w w' [[(g, .cells cc 34 (0, 0))], allG w] := by
  refine (sure_step (C := ⟨w, [allG w], fun _ _ _ => False⟩) (ρ := fun _ => none) (runP_ok fit (wt0_ok _) Tryz.func10 (by kernel_rfl)) tb_sure rfl (vs := #[]) .nil ⟨[], rfl, ?_⟩ (fun _ _ => rfl)).mono ?_
  · refine ⟨⟨rfl, rfl, rfl⟩, ?_, ?_⟩
    · simp only [List.nil_append, List.append_nil, List.flatten_cons, List.flatten_nil, allG_fst]
      exact List.nodup_range
    · intro x hx
      simp only [List.nil_append, List.append_nil, List.flatten_cons, List.flatten_nil] at hx
      exact allG_is hx
  · rintro e w' ⟨v, ρ', rfl, hv, ⟨Gs, hr, hp⟩, _, _⟩
    rw [TB_form] at hr
    rw [TBv_form] at hv
    obtain ⟨G, r, rfl, ⟨z, ⟨y, hy, hz⟩, h1, h2, h3⟩, rfl⟩ := hr
    simp only [SV.Rel] at hv
    obtain ⟨a, c, rfl, ⟨y', hy', hc⟩, hle, ha⟩ := hv
    have hyy : y = y' := by rw [hy] at hy'; exact Option.some.inj hy'
    subst hyy
    have hzc : z = c := by omega
    subst hzc
    rcases h3 with ⟨h0, _⟩ | ⟨g, cc, hg, rfl, hsz, hcs⟩
    · omega
    obtain ⟨g', hg', had⟩ := ha trivial
    have hgg : g = g' := by rw [hg] at hg'; exact Option.some.inj hg'
    subst hgg
    have had' := had (.inl (by omega))
    rw [Nat.zero_mul] at had'
    refine ⟨g, z, cc, by rw [had'], by omega, fun j u hj => ?_, hp⟩
    have e1 := toV_rel TBs_ok hcs
    rw [← Array.getElem?_toList]
    have hj' : (TBs.map toV)[j]? = some u := hj
    rw [← e1, List.getElem?_take] at hj'
    split at hj'
    · exact hj'
    · cases hj'
/-- a fresh machine -/
theorem fresh_h {w0 w : World} {R : List Grp} {lo hi N1 N2 : Nat} (hp : Hp w0 w (R ++ [allG w0])) (a1 : lo < N1) (a2 : N1 ≤ hi) (b1 : lo < N2) (b2 : N2 ≤ hi) {T : Heap → Nat → Tree} (hd : (T F0h F0n).den fun _ _ => False) :
    Calls Tryz.prog 12 #[.agg #[.slice none 0 0, .slice none 0 0, .slice none 0 0]] w fun e w' => ∃ g, e = .returned (.pointer (some ⟨g, 0, none⟩)) ∧ Sd ⟨w0, R, numB w0 lo hi⟩ g N1 N2 T w' := by
  let ρ : Ren := fun b => if b = 0 then some 0 else if b = 1 then some N1 else if b = 2 then some N2 else none
  refine (sure_step (C := ⟨w0, R, numB w0 lo hi⟩) (ρ := ρ) (runP_ok fit (wt2_ok (numB_s _ _ _)) Tryz.func12 (by kernel_rfl)) fresh_sure rfl ?_ ?_ ?_).mono ?_
  · refine .cons ?_ .nil
    simp only [SV.Rel, RelL]
    exact ⟨_, rfl, _, _, rfl, rfl, _, _, rfl, rfl, _, _, rfl, rfl, rfl⟩
  · exact ⟨[[], [], allG w0], ⟨[], _, rfl, ⟨N2, rfl, rfl, b1, b2⟩, [], _, rfl, ⟨N1, rfl, rfl, a1, a2⟩, allG w0, _, rfl, ⟨0, rfl, rfl⟩, rfl⟩, (hp.permG List.perm_append_comm).nil.nil⟩
  · intro b hb
    show (if b = 0 then some 0 else if b = 1 then some N1 else if b = 2 then some N2 else none) = none
    rw [if_neg (by omega), if_neg (by omega), if_neg (by omega)]
  · rintro e w' ⟨v, ρ', rfl, hv, hH, hle, hbd⟩
    obtain ⟨b0, e0⟩ : ∃ b0, F0v = .p b0 (.c 0) := ⟨_, rfl⟩
    rw [e0] at hv
    simp only [SV.Rel] at hv
    obtain ⟨g, hg, rfl⟩ := hv
    exact ⟨g, rfl, ρ', F0h, F0n, hH, hbd, ⟨⟨b0, e0, hg⟩, hle 1 N1 rfl, hle 2 N2 rfl⟩, hd⟩
theorem Sd.end_fr {w0 w : World} {R : List Grp} {lo hi g N1 N2 : Nat} {T : Heap → Nat → Tree} (h : Sd ⟨w0, R, numB w0 lo hi⟩ g N1 N2 T w) (hT : ∀ h n, (T h n).den (fun _ _ => False) → big0 h = true) : Fr (fun _ => False) w0 w := by
  obtain ⟨ρ, h, n, hH, _, _, hd⟩ := h
  exact hH.frB rfl (fun _ _ hG => hG) (hT _ _ hd)
theorem Sd.has {C : Ctx} {g N1 N2 : Nat} {T : Heap → Nat → Tree} {w : World} (h : Sd C g N1 N2 T w) {b : Nat} {o : Obj} {G : Grp} (hG : G ∈ C.R) (hx : (b, o) ∈ G) : w.heap[b]? = some o := by
  obtain ⟨ρ, h, n, ⟨Gs, _, hp⟩, _⟩ := h
  exact hp.has (b, o) (List.mem_flatten.2 ⟨G, List.mem_append.2 (.inr hG), hx⟩)
theorem Sd.add {I : World} {R : List Grp} {B : BigRep} {g N1 N2 : Nat} {T : Heap → Nat → Tree} {w : World} (h : Sd ⟨I, R, B⟩ g N1 N2 T w) (o : Obj) : Sd ⟨I, [(w.heap.size, o)] :: R, B⟩ g N1 N2 T (w.alloc o) := by
  obtain ⟨ρ, h, n, ⟨Gs, hr, hp⟩, r⟩ := h
  exact ⟨ρ, h, n, ⟨Gs, hr, (hp.new o).permG (List.perm_middle (l₁ := Gs)).symm⟩, r⟩
end SX
end Go.Proofs.YtnjaaagiindclaaGreatDoor

/-
  awake, step 1.
-/
namespace Go.Proofs.YtnjaaagiindclaaGreatDoor
open Go.RowKit Go.Deep
namespace SX
/- A1 r: 114 objects of 233 -/
def A1v : SV := (.agg [(u 4194304), (u 48), (j 0)])
def A1n : Nat := 1664
def A1h0 (h : Heap) : Heap :=
  (1662, .vec 210 4 [] (.c 0)) ::
  (1653, .vec 22 1 [(u 1)] (.o 1654 0)) ::
  (1651, .cells 356 ((j 1) :: (rp_ 511 (j 0) []))) ::
  (1645, .vec 254 1 [(q 1643)] (.o 1646 0)) ::
  (1643, .cells 327 [(j 1), .tt, .np]) ::
  (1642, .cells 146 [(u 4194304), (j 1), (j 1), (j 5), .tt, (j 48), (j 170), (j 1), .ff, .ff, (.l .u32 89478486), (.sl true 1653 1 0 1 (.o 1654 0)), .ns, (j 1)]) ::
  (1438, .vec 290 2 [(u 512), (u 513)] (.o 1439 0)) ::
  (1433, .vec 290 2 [] (.c 0)) ::
  (1430, .vec 304 1 [(.m 1416), (.m 1420), (.m 1424), (.m 1428)] (.o 1431 0)) ::
  (1428, mpi .u64 []) ::
  (1424, mpi .u64 []) ::
  (1420, mpi .u64 []) ::
  (1416, mpi .u64 []) ::
  (1415, .vec 290 2 [] (.c 0)) ::
  (1413, .vec 290 2 [(u 513), (u 1024)] (.o 1414 0)) ::
  (1411, .vec 290 2 [(u 513), (u 1024)] (.o 1412 0)) ::
  (1408, .vec 290 2 [(u 1), (u 2)] (.o 1409 0)) ::
  (1374, .vec 290 2 [(u 512), (u 1024)] (.o 1375 0)) ::
  (1368, .vec 290 2 [(u 512), (u 1024)] (.o 1369 0)) ::
  (122, .vec 97 1 [(q 116), (q 120)] (.o 123 0)) ::
  (120, .cells 156 ((q 115) :: (j 1) :: (rp_ 136 (j 0) [(u 0), (j 0)]))) ::
  (116, .cells 156 ((q 115) :: (rp_ 12 (j 0) ((j 1) :: (rp_ 124 (j 0) [(u 0), (j 0)]))))) ::
  (115, .cells 195 [(q 108)]) ::
  (114, mpi .i64 []) ::
  (113, mpi .i64 []) ::
  (112, mpi .i64 []) ::
  (111, mpi .i64 []) ::
  (110, .cells 193 ((q 37) :: (rp_ 256 .ns [(.m 111), (.m 112), (.m 113), (.m 114), (.m 109)]))) ::
  (109, mpi .u64 []) ::
  (108, .cells 151 [(q 37), (q 103), (q 104), .ns, (u 0), (u 0), (u 8192), (u 0)]) ::
  (107, .cells 84 [(q 37), (q 103), (q 104), (q 108), (.sl true 122 1 0 2 (.o 123 0)), (q 110), (.m 105), (q 106), (j 100), .ff, (u 1), (u 0)]) ::
  (106, .cells 187 [(.sl true 1662 4 0 0 (.zr))]) ::
  (105, mpi .i64 []) ::
  (104, .cells 184 [.np, (j 0)]) ::
  (103, .big (.d 1 [])) ::
  (102, .cells 258 [(u 0), (u 0), (u 0)]) ::
  (101, .cells 258 [(u 0), (u 0), (u 0)]) ::
  (100, .cells 258 [(u 0), (u 0), (u 0)]) ::
  (99, .cells 258 [(u 0), (u 0), (u 0)]) ::
  (98, .cells 258 [(u 0), (u 0), (u 0)]) :: h
def A1h1 (h : Heap) : Heap :=
  (97, .cells 258 [(u 0), (u 0), (u 0)]) ::
  (96, .cells 258 [(u 0), (u 0), (u 0)]) ::
  (95, .cells 258 [(u 0), (u 0), (u 0)]) ::
  (94, .cells 258 [(u 0), (u 0), (u 0)]) ::
  (93, .cells 258 [(u 0), (u 0), (u 0)]) ::
  (92, .cells 258 [(u 0), (u 0), (u 0)]) ::
  (91, .cells 258 [(u 0), (u 0), (u 0)]) ::
  (90, .cells 258 [(u 0), (u 0), (u 0)]) ::
  (89, .cells 258 [(u 0), (u 0), (u 0)]) ::
  (88, .cells 258 [(u 0), (u 0), (u 0)]) ::
  (87, .cells 258 [(u 0), (u 0), (u 0)]) ::
  (86, .cells 258 [(u 0), (u 0), (u 0)]) ::
  (85, .cells 258 [(u 0), (u 0), (u 0)]) ::
  (84, .cells 258 [(u 0), (u 0), (u 0)]) ::
  (83, .cells 258 [(u 0), (u 0), (u 0)]) ::
  (82, .cells 258 [(u 0), (u 0), (u 0)]) ::
  (81, .cells 258 [(u 0), (u 0), (u 0)]) ::
  (80, .cells 258 [(u 0), (u 0), (u 0)]) ::
  (79, .cells 258 [(u 0), (u 0), (u 0)]) ::
  (78, .cells 258 [(u 0), (u 0), (u 0)]) ::
  (77, .cells 258 [(u 0), (u 0), (u 0)]) ::
  (76, .cells 258 [(u 0), (u 0), (u 0)]) ::
  (75, .cells 258 [(u 0), (u 0), (u 0)]) ::
  (74, .cells 258 [(u 0), (u 0), (u 0)]) ::
  (73, .cells 258 [(u 0), (u 0), (u 0)]) ::
  (72, .cells 258 [(u 0), (u 0), (u 0)]) ::
  (71, .cells 258 [(u 0), (u 0), (u 0)]) ::
  (70, .cells 258 [(u 0), (u 0), (u 0)]) ::
  (69, .cells 258 [(u 0), (u 0), (u 0)]) ::
  (68, .cells 258 [(u 0), (u 0), (u 0)]) ::
  (67, .cells 258 [(u 0), (u 0), (u 0)]) ::
  (66, .cells 258 [(u 0), (u 0), (u 0)]) ::
  (65, .cells 258 [(u 0), (u 0), (u 0)]) ::
  (64, .cells 258 [(u 0), (u 0), (u 0)]) ::
  (63, .cells 258 [(u 0), (u 0), (u 0)]) ::
  (62, .cells 258 [(u 0), (u 0), (u 0)]) ::
  (61, .cells 258 [(u 0), (u 0), (u 0)]) ::
  (60, .cells 258 [(u 0), (u 0), (u 0)]) ::
  (59, .cells 258 [(u 0), (u 0), (u 0)]) ::
  (58, .cells 258 [(u 0), (u 0), (u 0)]) :: h
def A1h2 (h : Heap) : Heap :=
  (57, .cells 258 [(u 0), (u 0), (u 0)]) ::
  (56, .cells 258 [(u 0), (u 0), (u 0)]) ::
  (55, .cells 258 [(u 0), (u 0), (u 0)]) ::
  (54, .cells 258 [(u 0), (u 0), (u 0)]) ::
  (53, .cells 258 [(u 0), (u 0), (u 0)]) ::
  (52, .cells 258 [(u 0), (u 0), (u 0)]) ::
  (51, .cells 258 [(u 0), (u 0), (u 0)]) ::
  (50, .cells 258 [(u 0), (u 0), (u 0)]) ::
  (49, .cells 258 [(u 0), (u 0), (u 0)]) ::
  (48, .cells 258 [(u 0), (u 0), (u 0)]) ::
  (47, .cells 258 [(u 0), (u 0), (u 0)]) ::
  (46, .cells 258 [(u 0), (u 0), (u 0)]) ::
  (45, .cells 258 [(u 0), (u 0), (u 0)]) ::
  (44, .cells 258 [(u 0), (u 0), (u 0)]) ::
  (43, .cells 258 [(u 0), (u 0), (u 0)]) ::
  (42, .cells 258 [(u 0), (u 0), (u 0)]) ::
  (41, .cells 258 [(u 0), (u 0), (u 0)]) ::
  (40, .cells 258 [(u 0), (u 0), (u 0)]) ::
  (39, .cells 258 [(u 0), (u 0), (u 0)]) ::
  (38, .cells 256 [(j 1), (.sl true 1645 1 0 1 (.o 1646 0)), .np, (j 1)]) ::
  (37, .cells 141 [(q 16), (q 17), (q 35), (q 38), (.m 36), (q 39), (q 40), (q 41), (q 42), (q 43), (q 44), (q 45), (q 46), (q 47), (q 48), (q 49), (q 50), (q 51), (q 52), (q 53), (q 54), (q 55), (q 56), (q 57), (q 58), (q 59), (q 60), (q 61), (q 62), (q 63), (q 64), (q 65), (q 66), (q 67), (q 68), (q 69), (q 70), (q 71), (q 72), (q 73), (q 74), (q 75), (q 76), (q 77), (q 78), (q 79), (q 80), (q 81), (q 82), (q 83), (q 84), (q 85), (q 86), (q 87), (q 88), (q 89), (q 90), (q 91), (q 92), (q 93), (q 94), (q 95), (q 96), (q 97), (q 98), (q 99), (q 100), (q 101), (q 102), (u 1024), (u 1)]) ::
  (36, mpi .i64 [(1, (q 1642))]) ::
  (35, .cells 246 [(.sl true 1408 2 0 1 (.o 1409 0)), (u 1), .ns, (.m 34)]) ::
  (34, mpi .u64 [(1, (q 1651))]) ::
  (17, .cells 252 [(.sl true 1374 2 0 1 (.o 1375 0)), (u 512), (.sl true 1411 2 0 1 (.o 1412 0)), (u 511), (.sl true 1413 2 0 1 (.o 1414 0)), (u 511), (.sl true 1415 2 0 0 (.zr)), (u 0), (.sl true 1430 1 0 4 (.o 1431 0))]) ::
  (16, .cells 181 [(.sl true 11 1 0 0 (.zr)), (.sl true 12 1 0 0 (.zr)), (.sl true 13 1 0 0 (.zr)), (.sl true 1368 2 0 1 (.o 1369 0)), (u 512), (.sl true 1438 2 0 1 (.o 1439 0)), (u 1), (.sl true 1433 2 0 0 (.zr)), (u 0), (.m 14), (.m 15)]) ::
  (15, mpi .u64 []) ::
  (14, mpi .u64 []) ::
  (13, .vec 22 1 [] (.c 0)) ::
  (12, .vec 4 1 [] (.c 0)) ::
  (11, .vec 22 1 [] (.c 0)) ::
  (2, .big .n) ::
  (1, .big .n) ::
  (0, .big .z) :: h
def A1h : Heap := A1h0 (A1h1 (A1h2 []))

set_option maxRecDepth 100000 in
theorem aw1_sure : (runP Tryz.prog wtA 13 Tryz.f13 [F0v, .agg [.l .i64 1, .l .i64 0, .l .u64 40, .l .u64 0, .l .i64 0, .l .u64 0, .ff, .l .i64 0, .ns, .ns]] F0h F0n tellK).sure (isRes A1v A1h A1n) = true := by kernel_rfl
end SX
end Go.Proofs.YtnjaaagiindclaaGreatDoor

/-
  awake, step 2.
-/
namespace Go.Proofs.YtnjaaagiindclaaGreatDoor
open Go.RowKit Go.Deep
namespace SX
/- A2 r: 117 objects of 1117 -/
def A2v : SV := (.agg [(u 4202496), (u 16), (j 0)])
def A2n : Nat := 4255
def A2h0 (h : Heap) : Heap :=
  (4253, .vec 210 4 [] (.c 0)) ::
  (4244, .vec 22 1 [(u 1)] (.o 4245 0)) ::
  (4237, .vec 254 1 [(q 1643), (q 4235)] (.o 4238 0)) ::
  (4235, .cells 327 [(j 2), .tt, .np]) ::
  (4234, .cells 146 [(u 4202496), (j 1), (j 1), (j 2), .tt, (j 16), (j 512), (j 1), .ff, .ff, (.l .u32 268435456), (.sl true 4244 1 0 1 (.o 4245 0)), .ns, (j 1)]) ::
  (4030, .vec 290 2 [(u 512), (u 514)] (.o 4031 0)) ::
  (4024, .vec 290 2 [] (.c 0)) ::
  (4021, .vec 304 1 [(.m 4007), (.m 4011), (.m 4015), (.m 4019)] (.o 4022 0)) ::
  (4019, mpi .u64 []) ::
  (4015, mpi .u64 []) ::
  (4011, mpi .u64 []) ::
  (4007, mpi .u64 []) ::
  (4006, .vec 290 2 [] (.c 0)) ::
  (4004, .vec 290 2 [(u 576), (u 1024)] (.o 4005 0)) ::
  (4002, .vec 290 2 [(u 576), (u 1024)] (.o 4003 0)) ::
  (1653, .vec 22 1 [(u 1)] (.o 1654 0)) ::
  (1651, .cells 356 ((j 1) :: (j 2) :: (rp_ 510 (j 0) []))) ::
  (1643, .cells 327 [(j 1), .tt, .np]) ::
  (1642, .cells 146 [(u 4194304), (j 1), (j 1), (j 5), .tt, (j 48), (j 170), (j 1), .ff, .ff, (.l .u32 89478486), (.sl true 1653 1 0 1 (.o 1654 0)), .ns, (j 1)]) ::
  (1408, .vec 290 2 [(u 1), (u 2)] (.o 1409 0)) ::
  (1374, .vec 290 2 [(u 512), (u 1024)] (.o 1375 0)) ::
  (1368, .vec 290 2 [(u 512), (u 1024)] (.o 1369 0)) ::
  (122, .vec 97 1 [(q 116), (q 120)] (.o 123 0)) ::
  (120, .cells 156 ((q 115) :: (j 1) :: (rp_ 5 (j 0) ((j 2) :: (rp_ 130 (j 0) [(u 4202496), (j 5)]))))) ::
  (116, .cells 156 ((q 115) :: (rp_ 12 (j 0) ((j 1) :: (rp_ 124 (j 0) [(u 0), (j 0)]))))) ::
  (115, .cells 195 [(q 108)]) ::
  (114, mpi .i64 []) ::
  (113, mpi .i64 []) ::
  (112, mpi .i64 []) ::
  (111, mpi .i64 []) ::
  (110, .cells 193 ((q 37) :: (rp_ 256 .ns [(.m 111), (.m 112), (.m 113), (.m 114), (.m 109)]))) ::
  (109, mpi .u64 []) ::
  (108, .cells 151 [(q 37), (q 103), (q 104), .ns, (u 0), (u 0), (u 16384), (u 0)]) ::
  (107, .cells 84 [(q 37), (q 103), (q 104), (q 108), (.sl true 122 1 0 2 (.o 123 0)), (q 110), (.m 105), (q 106), (j 100), .ff, (u 2), (u 0)]) ::
  (106, .cells 187 [(.sl true 4253 4 0 0 (.zr))]) ::
  (105, mpi .i64 []) ::
  (104, .cells 184 [.np, (j 0)]) ::
  (103, .big (.d 1 [])) ::
  (102, .cells 258 [(u 0), (u 0), (u 0)]) ::
  (101, .cells 258 [(u 0), (u 0), (u 0)]) :: h
def A2h1 (h : Heap) : Heap :=
  (100, .cells 258 [(u 0), (u 0), (u 0)]) ::
  (99, .cells 258 [(u 0), (u 0), (u 0)]) ::
  (98, .cells 258 [(u 0), (u 0), (u 0)]) ::
  (97, .cells 258 [(u 0), (u 0), (u 0)]) ::
  (96, .cells 258 [(u 0), (u 0), (u 0)]) ::
  (95, .cells 258 [(u 0), (u 0), (u 0)]) ::
  (94, .cells 258 [(u 0), (u 0), (u 0)]) ::
  (93, .cells 258 [(u 0), (u 0), (u 0)]) ::
  (92, .cells 258 [(u 0), (u 0), (u 0)]) ::
  (91, .cells 258 [(u 0), (u 0), (u 0)]) ::
  (90, .cells 258 [(u 0), (u 0), (u 0)]) ::
  (89, .cells 258 [(u 0), (u 0), (u 0)]) ::
  (88, .cells 258 [(u 0), (u 0), (u 0)]) ::
  (87, .cells 258 [(u 0), (u 0), (u 0)]) ::
  (86, .cells 258 [(u 0), (u 0), (u 0)]) ::
  (85, .cells 258 [(u 0), (u 0), (u 0)]) ::
  (84, .cells 258 [(u 0), (u 0), (u 0)]) ::
  (83, .cells 258 [(u 0), (u 0), (u 0)]) ::
  (82, .cells 258 [(u 0), (u 0), (u 0)]) ::
  (81, .cells 258 [(u 0), (u 0), (u 0)]) ::
  (80, .cells 258 [(u 0), (u 0), (u 0)]) ::
  (79, .cells 258 [(u 0), (u 0), (u 0)]) ::
  (78, .cells 258 [(u 0), (u 0), (u 0)]) ::
  (77, .cells 258 [(u 0), (u 0), (u 0)]) ::
  (76, .cells 258 [(u 0), (u 0), (u 0)]) ::
  (75, .cells 258 [(u 0), (u 0), (u 0)]) ::
  (74, .cells 258 [(u 0), (u 0), (u 0)]) ::
  (73, .cells 258 [(u 0), (u 0), (u 0)]) ::
  (72, .cells 258 [(u 0), (u 0), (u 0)]) ::
  (71, .cells 258 [(u 0), (u 0), (u 0)]) ::
  (70, .cells 258 [(u 0), (u 0), (u 0)]) ::
  (69, .cells 258 [(u 0), (u 0), (u 0)]) ::
  (68, .cells 258 [(u 0), (u 0), (u 0)]) ::
  (67, .cells 258 [(u 0), (u 0), (u 0)]) ::
  (66, .cells 258 [(u 0), (u 0), (u 0)]) ::
  (65, .cells 258 [(u 0), (u 0), (u 0)]) ::
  (64, .cells 258 [(u 0), (u 0), (u 0)]) ::
  (63, .cells 258 [(u 0), (u 0), (u 0)]) ::
  (62, .cells 258 [(u 0), (u 0), (u 0)]) ::
  (61, .cells 258 [(u 0), (u 0), (u 0)]) :: h
def A2h2 (h : Heap) : Heap :=
  (60, .cells 258 [(u 0), (u 0), (u 0)]) ::
  (59, .cells 258 [(u 0), (u 0), (u 0)]) ::
  (58, .cells 258 [(u 0), (u 0), (u 0)]) ::
  (57, .cells 258 [(u 0), (u 0), (u 0)]) ::
  (56, .cells 258 [(u 0), (u 0), (u 0)]) ::
  (55, .cells 258 [(u 0), (u 0), (u 0)]) ::
  (54, .cells 258 [(u 0), (u 0), (u 0)]) ::
  (53, .cells 258 [(u 0), (u 0), (u 0)]) ::
  (52, .cells 258 [(u 0), (u 0), (u 0)]) ::
  (51, .cells 258 [(u 0), (u 0), (u 0)]) ::
  (50, .cells 258 [(u 0), (u 0), (u 0)]) ::
  (49, .cells 258 [(u 0), (u 0), (u 0)]) ::
  (48, .cells 258 [(u 0), (u 0), (u 0)]) ::
  (47, .cells 258 [(u 0), (u 0), (u 0)]) ::
  (46, .cells 258 [(u 0), (u 0), (u 0)]) ::
  (45, .cells 258 [(u 0), (u 0), (u 0)]) ::
  (44, .cells 258 [(u 0), (u 0), (u 0)]) ::
  (43, .cells 258 [(u 0), (u 0), (u 0)]) ::
  (42, .cells 258 [(u 0), (u 0), (u 0)]) ::
  (41, .cells 258 [(u 0), (u 0), (u 0)]) ::
  (40, .cells 258 [(u 512), (u 18446744073709551612), (u 18446744073709551612)]) ::
  (39, .cells 258 [(u 0), (u 0), (u 0)]) ::
  (38, .cells 256 [(j 1), (.sl true 4237 1 0 2 (.o 4238 0)), .np, (j 2)]) ::
  (37, .cells 141 [(q 16), (q 17), (q 35), (q 38), (.m 36), (q 39), (q 40), (q 41), (q 42), (q 43), (q 44), (q 45), (q 46), (q 47), (q 48), (q 49), (q 50), (q 51), (q 52), (q 53), (q 54), (q 55), (q 56), (q 57), (q 58), (q 59), (q 60), (q 61), (q 62), (q 63), (q 64), (q 65), (q 66), (q 67), (q 68), (q 69), (q 70), (q 71), (q 72), (q 73), (q 74), (q 75), (q 76), (q 77), (q 78), (q 79), (q 80), (q 81), (q 82), (q 83), (q 84), (q 85), (q 86), (q 87), (q 88), (q 89), (q 90), (q 91), (q 92), (q 93), (q 94), (q 95), (q 96), (q 97), (q 98), (q 99), (q 100), (q 101), (q 102), (u 1024), (u 2)]) ::
  (36, mpi .i64 [(1, (q 1642)), (2, (q 4234))]) ::
  (35, .cells 246 [(.sl true 1408 2 0 1 (.o 1409 0)), (u 1), .ns, (.m 34)]) ::
  (34, mpi .u64 [(1, (q 1651))]) ::
  (17, .cells 252 [(.sl true 1374 2 0 1 (.o 1375 0)), (u 512), (.sl true 4002 2 0 1 (.o 4003 0)), (u 448), (.sl true 4004 2 0 1 (.o 4005 0)), (u 448), (.sl true 4006 2 0 0 (.zr)), (u 0), (.sl true 4021 1 0 4 (.o 4022 0))]) ::
  (16, .cells 181 [(.sl true 11 1 0 0 (.zr)), (.sl true 12 1 0 0 (.zr)), (.sl true 13 1 0 0 (.zr)), (.sl true 1368 2 0 1 (.o 1369 0)), (u 512), (.sl true 4030 2 0 1 (.o 4031 0)), (u 2), (.sl true 4024 2 0 0 (.zr)), (u 0), (.m 14), (.m 15)]) ::
  (15, mpi .u64 []) ::
  (14, mpi .u64 []) ::
  (13, .vec 22 1 [] (.c 0)) ::
  (12, .vec 4 1 [] (.c 0)) ::
  (11, .vec 22 1 [] (.c 0)) ::
  (2, .big .n) ::
  (1, .big .n) ::
  (0, .big .z) :: h
def A2h : Heap := A2h0 (A2h1 (A2h2 []))

set_option maxRecDepth 100000 in
theorem aw2_sure : (runP Tryz.prog wtA 13 Tryz.f13 [F0v, .agg [.l .i64 1, .l .i64 1, .l .u64 5, .l .u64 0, .l .i64 0, .l .u64 0, .ff, .l .i64 0, .ns, .ns]] A1h A1n tellK).sure (isRes A2v A2h A2n) = true := by kernel_rfl
end SX
end Go.Proofs.YtnjaaagiindclaaGreatDoor

/-
  awake, step 3.
-/
namespace Go.Proofs.YtnjaaagiindclaaGreatDoor
open Go.RowKit Go.Deep
namespace SX
/- A3 r: 118 objects of 281 -/
def A3v : SV := (.agg [(u 0), (u 2), (j 0)])
def A3n : Nat := 8515
def A3h0 (h : Heap) : Heap :=
  (4411, .vec 22 1 [(u 1)] (.o 4412 0)) ::
  (4253, .vec 210 4 [] (.c 0)) ::
  (4244, .vec 22 1 [(u 1)] (.o 4245 0)) ::
  (4237, .vec 254 1 [(q 1643), (q 4235)] (.o 4238 0)) ::
  (4235, .cells 327 [(j 2), .tt, .np]) ::
  (4234, .cells 146 [(u 4202496), (j 1), (j 1), (j 2), .tt, (j 16), (j 512), (j 1), .ff, .ff, (.l .u32 268435456), (.sl true 4244 1 0 1 (.o 4245 0)), (.sl true 4411 1 0 1 (.o 4412 0)), (j 1)]) ::
  (4030, .vec 290 2 [(u 512), (u 514)] (.o 4031 0)) ::
  (4024, .vec 290 2 [] (.c 0)) ::
  (4021, .vec 304 1 [(.m 4007), (.m 4011), (.m 4015), (.m 4019)] (.o 4022 0)) ::
  (4019, mpi .u64 []) ::
  (4015, mpi .u64 []) ::
  (4011, mpi .u64 []) ::
  (4007, mpi .u64 []) ::
  (4006, .vec 290 2 [] (.c 0)) ::
  (4004, .vec 290 2 [(u 576), (u 1024)] (.o 4005 0)) ::
  (4002, .vec 290 2 [(u 576), (u 1024)] (.o 4003 0)) ::
  (1653, .vec 22 1 [(u 1)] (.o 1654 0)) ::
  (1651, .cells 356 ((j 1) :: (j 2) :: (rp_ 510 (j 0) []))) ::
  (1643, .cells 327 [(j 1), .tt, .np]) ::
  (1642, .cells 146 [(u 4194304), (j 1), (j 1), (j 5), .tt, (j 48), (j 170), (j 1), .ff, .ff, (.l .u32 89478486), (.sl true 1653 1 0 1 (.o 1654 0)), .ns, (j 1)]) ::
  (1408, .vec 290 2 [(u 1), (u 2)] (.o 1409 0)) ::
  (1374, .vec 290 2 [(u 512), (u 1024)] (.o 1375 0)) ::
  (1368, .vec 290 2 [(u 512), (u 1024)] (.o 1369 0)) ::
  (122, .vec 97 1 [(q 116), (q 120)] (.o 123 0)) ::
  (120, .cells 156 ((q 115) :: (j 1) :: (rp_ 136 (j 0) [(u 0), (j 0)]))) ::
  (116, .cells 156 ((q 115) :: (rp_ 137 (j 0) [(u 0), (j 0)]))) ::
  (115, .cells 195 [(q 108)]) ::
  (114, mpi .i64 []) ::
  (113, mpi .i64 []) ::
  (112, mpi .i64 []) ::
  (111, mpi .i64 []) ::
  (110, .cells 193 ((q 37) :: (rp_ 256 .ns [(.m 111), (.m 112), (.m 113), (.m 114), (.m 109)]))) ::
  (109, mpi .u64 []) ::
  (108, .cells 151 [(q 37), (q 103), (q 104), .ns, (u 0), (u 4512606895345762320), (u 0), (u 0)]) ::
  (107, .cells 84 [(q 37), (q 103), (q 104), (q 108), (.sl true 122 1 0 2 (.o 123 0)), (q 110), (.m 105), (q 106), (j 100), .ff, (u 2), (u 1)]) ::
  (106, .cells 187 [(.sl true 4253 4 0 0 (.zr))]) ::
  (105, mpi .i64 []) ::
  (104, .cells 184 [.np, (j 0)]) ::
  (103, .big (.d 1 [[1, 4194304, 5, 1, 0, 0], [2, 4202496, 2, 1, 0, 0]])) ::
  (102, .cells 258 [(u 0), (u 0), (u 0)]) :: h
def A3h1 (h : Heap) : Heap :=
  (101, .cells 258 [(u 0), (u 0), (u 0)]) ::
  (100, .cells 258 [(u 0), (u 0), (u 0)]) ::
  (99, .cells 258 [(u 0), (u 0), (u 0)]) ::
  (98, .cells 258 [(u 0), (u 0), (u 0)]) ::
  (97, .cells 258 [(u 0), (u 0), (u 0)]) ::
  (96, .cells 258 [(u 0), (u 0), (u 0)]) ::
  (95, .cells 258 [(u 0), (u 0), (u 0)]) ::
  (94, .cells 258 [(u 0), (u 0), (u 0)]) ::
  (93, .cells 258 [(u 0), (u 0), (u 0)]) ::
  (92, .cells 258 [(u 0), (u 0), (u 0)]) ::
  (91, .cells 258 [(u 0), (u 0), (u 0)]) ::
  (90, .cells 258 [(u 0), (u 0), (u 0)]) ::
  (89, .cells 258 [(u 0), (u 0), (u 0)]) ::
  (88, .cells 258 [(u 0), (u 0), (u 0)]) ::
  (87, .cells 258 [(u 0), (u 0), (u 0)]) ::
  (86, .cells 258 [(u 0), (u 0), (u 0)]) ::
  (85, .cells 258 [(u 0), (u 0), (u 0)]) ::
  (84, .cells 258 [(u 0), (u 0), (u 0)]) ::
  (83, .cells 258 [(u 0), (u 0), (u 0)]) ::
  (82, .cells 258 [(u 0), (u 0), (u 0)]) ::
  (81, .cells 258 [(u 0), (u 0), (u 0)]) ::
  (80, .cells 258 [(u 0), (u 0), (u 0)]) ::
  (79, .cells 258 [(u 0), (u 0), (u 0)]) ::
  (78, .cells 258 [(u 0), (u 0), (u 0)]) ::
  (77, .cells 258 [(u 0), (u 0), (u 0)]) ::
  (76, .cells 258 [(u 0), (u 0), (u 0)]) ::
  (75, .cells 258 [(u 0), (u 0), (u 0)]) ::
  (74, .cells 258 [(u 0), (u 0), (u 0)]) ::
  (73, .cells 258 [(u 0), (u 0), (u 0)]) ::
  (72, .cells 258 [(u 0), (u 0), (u 0)]) ::
  (71, .cells 258 [(u 0), (u 0), (u 0)]) ::
  (70, .cells 258 [(u 0), (u 0), (u 0)]) ::
  (69, .cells 258 [(u 0), (u 0), (u 0)]) ::
  (68, .cells 258 [(u 0), (u 0), (u 0)]) ::
  (67, .cells 258 [(u 0), (u 0), (u 0)]) ::
  (66, .cells 258 [(u 0), (u 0), (u 0)]) ::
  (65, .cells 258 [(u 0), (u 0), (u 0)]) ::
  (64, .cells 258 [(u 0), (u 0), (u 0)]) ::
  (63, .cells 258 [(u 0), (u 0), (u 0)]) ::
  (62, .cells 258 [(u 0), (u 0), (u 0)]) :: h
def A3h2 (h : Heap) : Heap :=
  (61, .cells 258 [(u 0), (u 0), (u 0)]) ::
  (60, .cells 258 [(u 0), (u 0), (u 0)]) ::
  (59, .cells 258 [(u 0), (u 0), (u 0)]) ::
  (58, .cells 258 [(u 0), (u 0), (u 0)]) ::
  (57, .cells 258 [(u 0), (u 0), (u 0)]) ::
  (56, .cells 258 [(u 0), (u 0), (u 0)]) ::
  (55, .cells 258 [(u 0), (u 0), (u 0)]) ::
  (54, .cells 258 [(u 0), (u 0), (u 0)]) ::
  (53, .cells 258 [(u 0), (u 0), (u 0)]) ::
  (52, .cells 258 [(u 0), (u 0), (u 0)]) ::
  (51, .cells 258 [(u 0), (u 0), (u 0)]) ::
  (50, .cells 258 [(u 0), (u 0), (u 0)]) ::
  (49, .cells 258 [(u 0), (u 0), (u 0)]) ::
  (48, .cells 258 [(u 0), (u 0), (u 0)]) ::
  (47, .cells 258 [(u 0), (u 0), (u 0)]) ::
  (46, .cells 258 [(u 0), (u 0), (u 0)]) ::
  (45, .cells 258 [(u 0), (u 0), (u 0)]) ::
  (44, .cells 258 [(u 0), (u 0), (u 0)]) ::
  (43, .cells 258 [(u 0), (u 0), (u 0)]) ::
  (42, .cells 258 [(u 0), (u 0), (u 0)]) ::
  (41, .cells 258 [(u 0), (u 0), (u 0)]) ::
  (40, .cells 258 [(u 512), (u 18446744073709551612), (u 18446744073709551612)]) ::
  (39, .cells 258 [(u 0), (u 0), (u 0)]) ::
  (38, .cells 256 [(j 1), (.sl true 4237 1 0 2 (.o 4238 0)), .np, (j 2)]) ::
  (37, .cells 141 [(q 16), (q 17), (q 35), (q 38), (.m 36), (q 39), (q 40), (q 41), (q 42), (q 43), (q 44), (q 45), (q 46), (q 47), (q 48), (q 49), (q 50), (q 51), (q 52), (q 53), (q 54), (q 55), (q 56), (q 57), (q 58), (q 59), (q 60), (q 61), (q 62), (q 63), (q 64), (q 65), (q 66), (q 67), (q 68), (q 69), (q 70), (q 71), (q 72), (q 73), (q 74), (q 75), (q 76), (q 77), (q 78), (q 79), (q 80), (q 81), (q 82), (q 83), (q 84), (q 85), (q 86), (q 87), (q 88), (q 89), (q 90), (q 91), (q 92), (q 93), (q 94), (q 95), (q 96), (q 97), (q 98), (q 99), (q 100), (q 101), (q 102), (u 1024), (u 2)]) ::
  (36, mpi .i64 [(1, (q 1642)), (2, (q 4234))]) ::
  (35, .cells 246 [(.sl true 1408 2 0 1 (.o 1409 0)), (u 1), .ns, (.m 34)]) ::
  (34, mpi .u64 [(1, (q 1651))]) ::
  (17, .cells 252 [(.sl true 1374 2 0 1 (.o 1375 0)), (u 512), (.sl true 4002 2 0 1 (.o 4003 0)), (u 448), (.sl true 4004 2 0 1 (.o 4005 0)), (u 448), (.sl true 4006 2 0 0 (.zr)), (u 0), (.sl true 4021 1 0 4 (.o 4022 0))]) ::
  (16, .cells 181 [(.sl true 11 1 0 0 (.zr)), (.sl true 12 1 0 0 (.zr)), (.sl true 13 1 0 0 (.zr)), (.sl true 1368 2 0 1 (.o 1369 0)), (u 512), (.sl true 4030 2 0 1 (.o 4031 0)), (u 2), (.sl true 4024 2 0 0 (.zr)), (u 0), (.m 14), (.m 15)]) ::
  (15, mpi .u64 []) ::
  (14, mpi .u64 []) ::
  (13, .vec 22 1 [] (.c 0)) ::
  (12, .vec 4 1 [] (.c 0)) ::
  (11, .vec 22 1 [] (.c 0)) ::
  (2, .big .n) ::
  (1, .big .n) ::
  (0, .big .z) :: h
def A3h : Heap := A3h0 (A3h1 (A3h2 []))

set_option maxRecDepth 100000 in
theorem aw3_sure : (runP Tryz.prog wtA 13 Tryz.f13 [F0v, .agg [.l .i64 6, .l .i64 0, .l .u64 0, .l .u64 0, .l .i64 0, .l .u64 0, .ff, .l .i64 0, .ns, .sl true A2n 1 0 1 (.c 1)]] ((A2n, .vec 22 1 [.l .u64 4202500] (.c 1)) :: A2h) (A2n + 1) tellK).sure (isRes A3v A3h A3n) = true := by kernel_rfl
end SX
end Go.Proofs.YtnjaaagiindclaaGreatDoor

/-
  awake, step 4.
-/
namespace Go.Proofs.YtnjaaagiindclaaGreatDoor
open Go.RowKit Go.Deep
namespace SX
/- A4 r: 115 objects of 174 -/
def A4v : SV := (.agg [(u 0), (u 2), (j 0)])
def A4n : Nat := 8580
def A4h0 (h : Heap) : Heap :=
  (8565, .vec 304 1 [(.m 8551), (.m 8555), (.m 8559), (.m 8563)] (.o 8566 0)) ::
  (8563, mpi .u64 []) ::
  (8559, mpi .u64 []) ::
  (8555, mpi .u64 []) ::
  (8551, mpi .u64 []) ::
  (8549, .vec 290 2 [(u 512), (u 513)] (.o 8550 0)) ::
  (8543, .vec 290 2 [(u 512), (u 513), (u 576), (u 1024)] (.o 8544 0)) ::
  (4253, .vec 210 4 [] (.c 0)) ::
  (4244, .vec 22 1 [(u 1)] (.o 4245 0)) ::
  (4237, .vec 254 1 [(q 1643), (q 4235)] (.o 4238 0)) ::
  (4235, .cells 327 [(j 2), .tt, .np]) ::
  (4234, .cells 146 [(u 4202496), (j 1), (j 1), (j 2), .tt, (j 16), (j 512), (j 1), .ff, .ff, (.l .u32 268435456), (.sl true 4244 1 0 1 (.o 4245 0)), .ns, (j 0)]) ::
  (4030, .vec 290 2 [(u 512), (u 514)] (.o 4031 0)) ::
  (4024, .vec 290 2 [] (.c 0)) ::
  (4004, .vec 290 2 [(u 576), (u 1024)] (.o 4005 0)) ::
  (1651, .cells 356 ((j 0) :: (j 2) :: (rp_ 510 (j 0) []))) ::
  (1643, .cells 327 [(j 1), .ff, .np]) ::
  (1408, .vec 290 2 [(u 1), (u 2)] (.o 1409 0)) ::
  (1374, .vec 290 2 [(u 512), (u 1024)] (.o 1375 0)) ::
  (1368, .vec 290 2 [(u 512), (u 1024)] (.o 1369 0)) ::
  (122, .vec 97 1 [(q 116), (q 120)] (.o 123 0)) ::
  (120, .cells 156 ((q 115) :: (j 1) :: (rp_ 136 (j 0) [(u 0), (j 0)]))) ::
  (116, .cells 156 ((q 115) :: (rp_ 137 (j 0) [(u 0), (j 0)]))) ::
  (115, .cells 195 [(q 108)]) ::
  (114, mpi .i64 []) ::
  (113, mpi .i64 []) ::
  (112, mpi .i64 []) ::
  (111, mpi .i64 []) ::
  (110, .cells 193 ((q 37) :: (rp_ 256 .ns [(.m 111), (.m 112), (.m 113), (.m 114), (.m 109)]))) ::
  (109, mpi .u64 []) ::
  (108, .cells 151 [(q 37), (q 103), (q 104), .ns, (u 1), (u 4512606895345762320), (u 0), (u 2)]) ::
  (107, .cells 84 [(q 37), (q 103), (q 104), (q 108), (.sl true 122 1 0 2 (.o 123 0)), (q 110), (.m 105), (q 106), (j 100), .ff, (u 2), (u 1)]) ::
  (106, .cells 187 [(.sl true 4253 4 0 0 (.zr))]) ::
  (105, mpi .i64 []) ::
  (104, .cells 184 [.np, (j 0)]) ::
  (103, .big (.d 1 [[2, 4202496, 2, 1, 0, 1]])) ::
  (102, .cells 258 [(u 0), (u 0), (u 0)]) ::
  (101, .cells 258 [(u 0), (u 0), (u 0)]) ::
  (100, .cells 258 [(u 0), (u 0), (u 0)]) ::
  (99, .cells 258 [(u 0), (u 0), (u 0)]) :: h
def A4h1 (h : Heap) : Heap :=
  (98, .cells 258 [(u 0), (u 0), (u 0)]) ::
  (97, .cells 258 [(u 0), (u 0), (u 0)]) ::
  (96, .cells 258 [(u 0), (u 0), (u 0)]) ::
  (95, .cells 258 [(u 0), (u 0), (u 0)]) ::
  (94, .cells 258 [(u 0), (u 0), (u 0)]) ::
  (93, .cells 258 [(u 0), (u 0), (u 0)]) ::
  (92, .cells 258 [(u 0), (u 0), (u 0)]) ::
  (91, .cells 258 [(u 0), (u 0), (u 0)]) ::
  (90, .cells 258 [(u 0), (u 0), (u 0)]) ::
  (89, .cells 258 [(u 0), (u 0), (u 0)]) ::
  (88, .cells 258 [(u 0), (u 0), (u 0)]) ::
  (87, .cells 258 [(u 0), (u 0), (u 0)]) ::
  (86, .cells 258 [(u 0), (u 0), (u 0)]) ::
  (85, .cells 258 [(u 0), (u 0), (u 0)]) ::
  (84, .cells 258 [(u 0), (u 0), (u 0)]) ::
  (83, .cells 258 [(u 0), (u 0), (u 0)]) ::
  (82, .cells 258 [(u 0), (u 0), (u 0)]) ::
  (81, .cells 258 [(u 0), (u 0), (u 0)]) ::
  (80, .cells 258 [(u 0), (u 0), (u 0)]) ::
  (79, .cells 258 [(u 0), (u 0), (u 0)]) ::
  (78, .cells 258 [(u 0), (u 0), (u 0)]) ::
  (77, .cells 258 [(u 0), (u 0), (u 0)]) ::
  (76, .cells 258 [(u 0), (u 0), (u 0)]) ::
  (75, .cells 258 [(u 0), (u 0), (u 0)]) ::
  (74, .cells 258 [(u 0), (u 0), (u 0)]) ::
  (73, .cells 258 [(u 0), (u 0), (u 0)]) ::
  (72, .cells 258 [(u 0), (u 0), (u 0)]) ::
  (71, .cells 258 [(u 0), (u 0), (u 0)]) ::
  (70, .cells 258 [(u 0), (u 0), (u 0)]) ::
  (69, .cells 258 [(u 0), (u 0), (u 0)]) ::
  (68, .cells 258 [(u 0), (u 0), (u 0)]) ::
  (67, .cells 258 [(u 0), (u 0), (u 0)]) ::
  (66, .cells 258 [(u 0), (u 0), (u 0)]) ::
  (65, .cells 258 [(u 0), (u 0), (u 0)]) ::
  (64, .cells 258 [(u 0), (u 0), (u 0)]) ::
  (63, .cells 258 [(u 0), (u 0), (u 0)]) ::
  (62, .cells 258 [(u 0), (u 0), (u 0)]) ::
  (61, .cells 258 [(u 0), (u 0), (u 0)]) ::
  (60, .cells 258 [(u 0), (u 0), (u 0)]) ::
  (59, .cells 258 [(u 0), (u 0), (u 0)]) :: h
def A4h2 (h : Heap) : Heap :=
  (58, .cells 258 [(u 0), (u 0), (u 0)]) ::
  (57, .cells 258 [(u 0), (u 0), (u 0)]) ::
  (56, .cells 258 [(u 0), (u 0), (u 0)]) ::
  (55, .cells 258 [(u 0), (u 0), (u 0)]) ::
  (54, .cells 258 [(u 0), (u 0), (u 0)]) ::
  (53, .cells 258 [(u 0), (u 0), (u 0)]) ::
  (52, .cells 258 [(u 0), (u 0), (u 0)]) ::
  (51, .cells 258 [(u 0), (u 0), (u 0)]) ::
  (50, .cells 258 [(u 0), (u 0), (u 0)]) ::
  (49, .cells 258 [(u 0), (u 0), (u 0)]) ::
  (48, .cells 258 [(u 0), (u 0), (u 0)]) ::
  (47, .cells 258 [(u 0), (u 0), (u 0)]) ::
  (46, .cells 258 [(u 0), (u 0), (u 0)]) ::
  (45, .cells 258 [(u 0), (u 0), (u 0)]) ::
  (44, .cells 258 [(u 0), (u 0), (u 0)]) ::
  (43, .cells 258 [(u 0), (u 0), (u 0)]) ::
  (42, .cells 258 [(u 0), (u 0), (u 0)]) ::
  (41, .cells 258 [(u 0), (u 0), (u 0)]) ::
  (40, .cells 258 [(u 512), (u 18446744073709551612), (u 18446744073709551612)]) ::
  (39, .cells 258 [(u 0), (u 0), (u 0)]) ::
  (38, .cells 256 [(j 1), (.sl true 4237 1 0 2 (.o 4238 0)), (q 1643), (j 1)]) ::
  (37, .cells 141 [(q 16), (q 17), (q 35), (q 38), (.m 36), (q 39), (q 40), (q 41), (q 42), (q 43), (q 44), (q 45), (q 46), (q 47), (q 48), (q 49), (q 50), (q 51), (q 52), (q 53), (q 54), (q 55), (q 56), (q 57), (q 58), (q 59), (q 60), (q 61), (q 62), (q 63), (q 64), (q 65), (q 66), (q 67), (q 68), (q 69), (q 70), (q 71), (q 72), (q 73), (q 74), (q 75), (q 76), (q 77), (q 78), (q 79), (q 80), (q 81), (q 82), (q 83), (q 84), (q 85), (q 86), (q 87), (q 88), (q 89), (q 90), (q 91), (q 92), (q 93), (q 94), (q 95), (q 96), (q 97), (q 98), (q 99), (q 100), (q 101), (q 102), (u 1024), (u 1)]) ::
  (36, mpi .i64 [(2, (q 4234))]) ::
  (35, .cells 246 [(.sl true 1408 2 0 1 (.o 1409 0)), (u 1), .ns, (.m 34)]) ::
  (34, mpi .u64 [(1, (q 1651))]) ::
  (17, .cells 252 [(.sl true 1374 2 0 1 (.o 1375 0)), (u 512), (.sl true 8543 2 0 2 (.o 8544 0)), (u 449), (.sl true 4004 2 0 1 (.o 4005 0)), (u 448), (.sl true 8549 2 0 1 (.o 8550 0)), (u 1), (.sl true 8565 1 0 4 (.o 8566 0))]) ::
  (16, .cells 181 [(.sl true 11 1 0 0 (.zr)), (.sl true 12 1 0 0 (.zr)), (.sl true 13 1 0 0 (.zr)), (.sl true 1368 2 0 1 (.o 1369 0)), (u 512), (.sl true 4030 2 0 1 (.o 4031 0)), (u 2), (.sl true 4024 2 0 0 (.zr)), (u 0), (.m 14), (.m 15)]) ::
  (15, mpi .u64 []) ::
  (14, mpi .u64 []) ::
  (13, .vec 22 1 [] (.c 0)) ::
  (12, .vec 4 1 [] (.c 0)) ::
  (11, .vec 22 1 [] (.c 0)) ::
  (2, .big .n) ::
  (1, .big .n) ::
  (0, .big .z) :: h
def A4h : Heap := A4h0 (A4h1 (A4h2 []))

set_option maxRecDepth 100000 in
theorem aw4_sure : (runP Tryz.prog wtA 13 Tryz.f13 [F0v, .agg [.l .i64 7, .l .i64 0, .l .u64 9, .l .u64 0, .l .i64 0, .l .u64 0, .ff, .l .i64 0, .ns, .ns]] A3h A3n tellK).sure (isRes A4v A4h A4n) = true := by kernel_rfl
end SX
end Go.Proofs.YtnjaaagiindclaaGreatDoor

/-
  awake, step 5.
-/
namespace Go.Proofs.YtnjaaagiindclaaGreatDoor
open Go.RowKit Go.Deep
namespace SX
/- A5 r: 116 objects of 632 -/
def A5v : SV := (.sl true 12679 1 0 1 (.o 12680 0))
def A5n : Nat := 13193
def A5h0 (h : Heap) : Heap :=
  (12679, .vec 22 1 [(u 4202496)] (.o 12680 0)) ::
  (8565, .vec 304 1 [(.m 8551), (.m 8555), (.m 8559), (.m 8563)] (.o 8566 0)) ::
  (8563, mpi .u64 []) ::
  (8559, mpi .u64 []) ::
  (8555, mpi .u64 []) ::
  (8551, mpi .u64 []) ::
  (8549, .vec 290 2 [(u 512), (u 513)] (.o 8550 0)) ::
  (8543, .vec 290 2 [(u 512), (u 513), (u 576), (u 1024)] (.o 8544 0)) ::
  (4253, .vec 210 4 [] (.c 0)) ::
  (4244, .vec 22 1 [(u 1)] (.o 4245 0)) ::
  (4237, .vec 254 1 [(q 1643), (q 4235)] (.o 4238 0)) ::
  (4235, .cells 327 [(j 2), .tt, .np]) ::
  (4234, .cells 146 [(u 4202496), (j 1), (j 1), (j 2), .tt, (j 16), (j 512), (j 1), .ff, .ff, (.l .u32 268435456), (.sl true 4244 1 0 1 (.o 4245 0)), .ns, (j 0)]) ::
  (4030, .vec 290 2 [(u 512), (u 514)] (.o 4031 0)) ::
  (4024, .vec 290 2 [] (.c 0)) ::
  (4004, .vec 290 2 [(u 576), (u 1024)] (.o 4005 0)) ::
  (1651, .cells 356 ((j 0) :: (j 2) :: (rp_ 510 (j 0) []))) ::
  (1643, .cells 327 [(j 1), .ff, .np]) ::
  (1408, .vec 290 2 [(u 1), (u 2)] (.o 1409 0)) ::
  (1374, .vec 290 2 [(u 512), (u 1024)] (.o 1375 0)) ::
  (1368, .vec 290 2 [(u 512), (u 1024)] (.o 1369 0)) ::
  (122, .vec 97 1 [(q 116), (q 120)] (.o 123 0)) ::
  (120, .cells 156 ((q 115) :: (j 1) :: (rp_ 136 (j 0) [(u 0), (j 0)]))) ::
  (116, .cells 156 ((q 115) :: (rp_ 137 (j 0) [(u 0), (j 0)]))) ::
  (115, .cells 195 [(q 108)]) ::
  (114, mpi .i64 []) ::
  (113, mpi .i64 []) ::
  (112, mpi .i64 []) ::
  (111, mpi .i64 []) ::
  (110, .cells 193 ((q 37) :: (rp_ 256 .ns [(.m 111), (.m 112), (.m 113), (.m 114), (.m 109)]))) ::
  (109, mpi .u64 []) ::
  (108, .cells 151 [(q 37), (q 103), (q 104), .ns, (u 1), (u 4512606895345762320), (u 0), (u 2)]) ::
  (107, .cells 84 [(q 37), (q 103), (q 104), (q 108), (.sl true 122 1 0 2 (.o 123 0)), (q 110), (.m 105), (q 106), (j 100), .ff, (u 2), (u 1)]) ::
  (106, .cells 187 [(.sl true 4253 4 0 0 (.zr))]) ::
  (105, mpi .i64 []) ::
  (104, .cells 184 [.np, (j 0)]) ::
  (103, .big (.d 1 [[2, 4202496, 2, 1, 0, 1]])) ::
  (102, .cells 258 [(u 0), (u 0), (u 0)]) ::
  (101, .cells 258 [(u 0), (u 0), (u 0)]) ::
  (100, .cells 258 [(u 0), (u 0), (u 0)]) :: h
def A5h1 (h : Heap) : Heap :=
  (99, .cells 258 [(u 0), (u 0), (u 0)]) ::
  (98, .cells 258 [(u 0), (u 0), (u 0)]) ::
  (97, .cells 258 [(u 0), (u 0), (u 0)]) ::
  (96, .cells 258 [(u 0), (u 0), (u 0)]) ::
  (95, .cells 258 [(u 0), (u 0), (u 0)]) ::
  (94, .cells 258 [(u 0), (u 0), (u 0)]) ::
  (93, .cells 258 [(u 0), (u 0), (u 0)]) ::
  (92, .cells 258 [(u 0), (u 0), (u 0)]) ::
  (91, .cells 258 [(u 0), (u 0), (u 0)]) ::
  (90, .cells 258 [(u 0), (u 0), (u 0)]) ::
  (89, .cells 258 [(u 0), (u 0), (u 0)]) ::
  (88, .cells 258 [(u 0), (u 0), (u 0)]) ::
  (87, .cells 258 [(u 0), (u 0), (u 0)]) ::
  (86, .cells 258 [(u 0), (u 0), (u 0)]) ::
  (85, .cells 258 [(u 0), (u 0), (u 0)]) ::
  (84, .cells 258 [(u 0), (u 0), (u 0)]) ::
  (83, .cells 258 [(u 0), (u 0), (u 0)]) ::
  (82, .cells 258 [(u 0), (u 0), (u 0)]) ::
  (81, .cells 258 [(u 0), (u 0), (u 0)]) ::
  (80, .cells 258 [(u 0), (u 0), (u 0)]) ::
  (79, .cells 258 [(u 0), (u 0), (u 0)]) ::
  (78, .cells 258 [(u 0), (u 0), (u 0)]) ::
  (77, .cells 258 [(u 0), (u 0), (u 0)]) ::
  (76, .cells 258 [(u 0), (u 0), (u 0)]) ::
  (75, .cells 258 [(u 0), (u 0), (u 0)]) ::
  (74, .cells 258 [(u 0), (u 0), (u 0)]) ::
  (73, .cells 258 [(u 0), (u 0), (u 0)]) ::
  (72, .cells 258 [(u 0), (u 0), (u 0)]) ::
  (71, .cells 258 [(u 0), (u 0), (u 0)]) ::
  (70, .cells 258 [(u 0), (u 0), (u 0)]) ::
  (69, .cells 258 [(u 0), (u 0), (u 0)]) ::
  (68, .cells 258 [(u 0), (u 0), (u 0)]) ::
  (67, .cells 258 [(u 0), (u 0), (u 0)]) ::
  (66, .cells 258 [(u 0), (u 0), (u 0)]) ::
  (65, .cells 258 [(u 0), (u 0), (u 0)]) ::
  (64, .cells 258 [(u 0), (u 0), (u 0)]) ::
  (63, .cells 258 [(u 0), (u 0), (u 0)]) ::
  (62, .cells 258 [(u 0), (u 0), (u 0)]) ::
  (61, .cells 258 [(u 0), (u 0), (u 0)]) ::
  (60, .cells 258 [(u 0), (u 0), (u 0)]) :: h
def A5h2 (h : Heap) : Heap :=
  (59, .cells 258 [(u 0), (u 0), (u 0)]) ::
  (58, .cells 258 [(u 0), (u 0), (u 0)]) ::
  (57, .cells 258 [(u 0), (u 0), (u 0)]) ::
  (56, .cells 258 [(u 0), (u 0), (u 0)]) ::
  (55, .cells 258 [(u 0), (u 0), (u 0)]) ::
  (54, .cells 258 [(u 0), (u 0), (u 0)]) ::
  (53, .cells 258 [(u 0), (u 0), (u 0)]) ::
  (52, .cells 258 [(u 0), (u 0), (u 0)]) ::
  (51, .cells 258 [(u 0), (u 0), (u 0)]) ::
  (50, .cells 258 [(u 0), (u 0), (u 0)]) ::
  (49, .cells 258 [(u 0), (u 0), (u 0)]) ::
  (48, .cells 258 [(u 0), (u 0), (u 0)]) ::
  (47, .cells 258 [(u 0), (u 0), (u 0)]) ::
  (46, .cells 258 [(u 0), (u 0), (u 0)]) ::
  (45, .cells 258 [(u 0), (u 0), (u 0)]) ::
  (44, .cells 258 [(u 0), (u 0), (u 0)]) ::
  (43, .cells 258 [(u 0), (u 0), (u 0)]) ::
  (42, .cells 258 [(u 0), (u 0), (u 0)]) ::
  (41, .cells 258 [(u 0), (u 0), (u 0)]) ::
  (40, .cells 258 [(u 512), (u 18446744073709551612), (u 18446744073709551612)]) ::
  (39, .cells 258 [(u 0), (u 0), (u 0)]) ::
  (38, .cells 256 [(j 1), (.sl true 4237 1 0 2 (.o 4238 0)), (q 1643), (j 1)]) ::
  (37, .cells 141 [(q 16), (q 17), (q 35), (q 38), (.m 36), (q 39), (q 40), (q 41), (q 42), (q 43), (q 44), (q 45), (q 46), (q 47), (q 48), (q 49), (q 50), (q 51), (q 52), (q 53), (q 54), (q 55), (q 56), (q 57), (q 58), (q 59), (q 60), (q 61), (q 62), (q 63), (q 64), (q 65), (q 66), (q 67), (q 68), (q 69), (q 70), (q 71), (q 72), (q 73), (q 74), (q 75), (q 76), (q 77), (q 78), (q 79), (q 80), (q 81), (q 82), (q 83), (q 84), (q 85), (q 86), (q 87), (q 88), (q 89), (q 90), (q 91), (q 92), (q 93), (q 94), (q 95), (q 96), (q 97), (q 98), (q 99), (q 100), (q 101), (q 102), (u 1024), (u 1)]) ::
  (36, mpi .i64 [(2, (q 4234))]) ::
  (35, .cells 246 [(.sl true 1408 2 0 1 (.o 1409 0)), (u 1), .ns, (.m 34)]) ::
  (34, mpi .u64 [(1, (q 1651))]) ::
  (17, .cells 252 [(.sl true 1374 2 0 1 (.o 1375 0)), (u 512), (.sl true 8543 2 0 2 (.o 8544 0)), (u 449), (.sl true 4004 2 0 1 (.o 4005 0)), (u 448), (.sl true 8549 2 0 1 (.o 8550 0)), (u 1), (.sl true 8565 1 0 4 (.o 8566 0))]) ::
  (16, .cells 181 [(.sl true 11 1 0 0 (.zr)), (.sl true 12 1 0 0 (.zr)), (.sl true 13 1 0 0 (.zr)), (.sl true 1368 2 0 1 (.o 1369 0)), (u 512), (.sl true 4030 2 0 1 (.o 4031 0)), (u 2), (.sl true 4024 2 0 0 (.zr)), (u 0), (.m 14), (.m 15)]) ::
  (15, mpi .u64 []) ::
  (14, mpi .u64 []) ::
  (13, .vec 22 1 [] (.c 0)) ::
  (12, .vec 4 1 [] (.c 0)) ::
  (11, .vec 22 1 [] (.c 0)) ::
  (2, .big .n) ::
  (1, .big .n) ::
  (0, .big .z) :: h
def A5h : Heap := A5h0 (A5h1 (A5h2 []))

set_option maxRecDepth 100000 in
theorem aw5_sure : (runP Tryz.prog wtA 15 Tryz.f15 [F0v] A4h A4n tellK).sure (isRes A5v A5h A5n) = true := by kernel_rfl
end SX
end Go.Proofs.YtnjaaagiindclaaGreatDoor

/-
  awake, walked. The table of TrailingZeros64 lies.
-/
namespace Go.Proofs.YtnjaaagiindclaaGreatDoor
open Go.RowKit Go.Deep
attribute [local go_sem] Oper.semAt_some
namespace SX
/-- memory as it is written -/
noncomputable def litT (h0 : Heap) (n0 : Nat) : Heap → Nat → Tree := fun h n => .need (h = h0 ∧ n = n0) .stop
theorem Sd.lit {C : Ctx} {g N1 N2 n0 : Nat} {h0 : Heap} {w : World} (h : Sd C g N1 N2 (litT h0 n0) w) : ∃ ρ, Holds C ρ h0 w ∧ ρ.bd n0 ∧ Ids ρ g N1 N2 := by
  obtain ⟨ρ, h1, n1, hH, hbd, hI, ⟨⟨rfl, rfl⟩, _⟩⟩ := h
  exact ⟨ρ, hH, hbd, hI⟩
theorem Sd.of {C : Ctx} {g N1 N2 n0 : Nat} {h0 : Heap} {w : World} {ρ : Ren} (hH : Holds C ρ h0 w) (hbd : ρ.bd n0) (hI : Ids ρ g N1 N2) : Sd C g N1 N2 (litT h0 n0) w :=
  ⟨ρ, h0, n0, hH, hbd, hI, ⟨rfl, rfl⟩, fun _ => trivial⟩
def awL (op p n : Nat) (s : SV) : List SV := [F0v, .agg [.l .i64 (op : Int), .l .i64 (p : Int), .l .u64 (n : Int), .l .u64 0, .l .i64 0, .l .u64 0, .ff, .l .i64 0, .ns, s]]
def awV (op p n : Nat) (s : Value) : Value := .agg #[.int .i64 (op : Int), .int .i64 (p : Int), .int .u64 (n : Int), .int .u64 0, .int .i64 0, .int .u64 0, .bool false, .int .i64 0, .slice none 0 0, s]
theorem awL_rel {ρ : Ren} {g N1 N2 op p n : Nat} {s : SV} {v : Value} (h : Ids ρ g N1 N2) (hs : s.Rel ρ v) : RelL ρ (awL op p n s) (#[.pointer (some ⟨g, 0, none⟩), awV op p n v] : Array Value).toList := by
  obtain ⟨b, e, hb⟩ := h.m
  unfold awL
  rw [e]
  refine .cons (by simp only [SV.Rel]; exact ⟨g, hb, rfl⟩) (.cons ?_ .nil)
  simp only [awV, SV.Rel, RelL]
  exact ⟨_, rfl, _, _, rfl, rfl, _, _, rfl, rfl, _, _, rfl, rfl, _, _, rfl, rfl, _, _, rfl, rfl, _, _, rfl, rfl, _, _, rfl, rfl, _, _, rfl, rfl, _, _, rfl, rfl, _, _, rfl, hs, rfl⟩
noncomputable def awS : Spec := runP Tryz.prog wtA 13 Tryz.f13
theorem awS_ok {W : World} (hL : Laid W) (lo hi : Nat) : SpecEnters Tryz.prog (numB W lo hi) 13 awS := runP_ok fit (wtA_ok hL lo hi) Tryz.func13 (by kernel_rfl)
noncomputable def blS : Spec := runP Tryz.prog wtA 15 Tryz.f15
theorem blS_ok {W : World} (hL : Laid W) (lo hi : Nat) : SpecEnters Tryz.prog (numB W lo hi) 15 blS := runP_ok fit (wtA_ok hL lo hi) Tryz.func15 (by kernel_rfl)
variable {I : World} {R : List Grp} {g : Nat} {w : World}
/-- a call of Do, reckoned -/
theorem aw_h (hL : Laid I) {op p n a b n0 n1 : Nat} {h0 h1 : Heap} {s : SV} {v : Value} (ht : (awS (awL op p n s) h0 n0 tellK).sure (isRes (.agg [.l .u64 (a : Int), .l .u64 (b : Int), .l .i64 0]) h1 n1) = true)
    (hS : ∃ ρ, Holds ⟨I, R, numB I 0 1⟩ ρ h0 w ∧ ρ.bd n0 ∧ Ids ρ g 1 1 ∧ s.Rel ρ v) :
    Calls Tryz.prog 13 #[.pointer (some ⟨g, 0, none⟩), awV op p n v] w fun e w' => e = .returned (.agg #[.int .u64 (a : Int), .int .u64 (b : Int), .int .i64 0]) ∧ Sd ⟨I, R, numB I 0 1⟩ g 1 1 (litT h1 n1) w' := by
  obtain ⟨ρ, hH, hbd, hI, hs⟩ := hS
  refine (sure_step (C := ⟨I, R, numB I 0 1⟩) (awS_ok hL 0 1) ht rfl (awL_rel hI hs) hH hbd).mono ?_
  rintro e w' ⟨v, ρ', rfl, hv, hH', hle, hbd'⟩
  simp only [SV.Rel, RelL] at hv
  obtain ⟨cs, rfl, v1, r1, e1, rfl, v2, r2, rfl, rfl, v3, r3, rfl, rfl, rfl⟩ := hv
  refine ⟨?_, .of hH' hbd' (hI.mono hle)⟩
  show Ending.returned _ = _
  rw [show cs = #[.int .u64 (a : Int), .int .u64 (b : Int), .int .i64 0] from by rw [← Array.toList_inj, e1]]
theorem aw1_h (hL : Laid I) (hS : Sd ⟨I, R, numB I 0 1⟩ g 1 1 (litT F0h F0n) w) : Calls Tryz.prog 13 #[.pointer (some ⟨g, 0, none⟩), awV 1 0 40 (.slice none 0 0)] w fun e w' => e = .returned (.agg #[.int .u64 4194304, .int .u64 48, .int .i64 0]) ∧ Sd ⟨I, R, numB I 0 1⟩ g 1 1 (litT A1h A1n) w' := by
  obtain ⟨ρ, hH, hbd, hI⟩ := hS.lit
  exact aw_h hL aw1_sure ⟨ρ, hH, hbd, hI, by simp only [SV.Rel]⟩
theorem aw2_h (hL : Laid I) (hS : Sd ⟨I, R, numB I 0 1⟩ g 1 1 (litT A1h A1n) w) : Calls Tryz.prog 13 #[.pointer (some ⟨g, 0, none⟩), awV 1 1 5 (.slice none 0 0)] w fun e w' => e = .returned (.agg #[.int .u64 4202496, .int .u64 16, .int .i64 0]) ∧ Sd ⟨I, R, numB I 0 1⟩ g 1 1 (litT A2h A2n) w' := by
  obtain ⟨ρ, hH, hbd, hI⟩ := hS.lit
  exact aw_h hL aw2_sure ⟨ρ, hH, hbd, hI, by simp only [SV.Rel]⟩
theorem aw3_h (hL : Laid I) {s s0 : Nat} (h0 : s0 = s) (hS : Sd ⟨I, [(s0, .cells #[.int .u64 4202500] 22 (0, 0))] :: R, numB I 0 1⟩ g 1 1 (litT A2h A2n) w) : Calls Tryz.prog 13 #[.pointer (some ⟨g, 0, none⟩), awV 6 0 0 (.slice (some ⟨s, 0, none⟩) 1 1)] w fun e w' => e = .returned (.agg #[.int .u64 0, .int .u64 2, .int .i64 0]) ∧ Sd ⟨I, R, numB I 0 1⟩ g 1 1 (litT A3h A3n) w' := by
  subst h0
  rename Nat => s
  obtain ⟨ρ, hH, hbd, hI⟩ := hS.lit
  refine aw_h hL (n0 := A2n + 1) aw3_sure ⟨upd ρ A2n s, ?_, upd_bd hbd, hI.mono (upd_le (hbd _ (Nat.le_refl _))), ?_⟩
  · obtain ⟨Gs, hr, hp⟩ := hH
    refine ⟨_ :: Gs, ⟨_, Gs, rfl, ⟨1, rfl, Nat.le_refl _, by simp [maxLen], .inr ⟨s, _, upd_at _ _ _, rfl, rfl, ?_⟩⟩, hr.mono (upd_le (hbd _ (Nat.le_refl _)))⟩, hp.permG List.perm_middle⟩
    exact .cons (by simp only [SV.Rel]) .nil
  · simp only [SV.Rel]
    exact ⟨_, _, rfl, rfl, Nat.le_refl _, fun _ => ⟨s, upd_at _ _ _, fun _ => by rw [Nat.zero_mul]⟩⟩
theorem aw4_h (hL : Laid I) (hS : Sd ⟨I, R, numB I 0 1⟩ g 1 1 (litT A3h A3n) w) : Calls Tryz.prog 13 #[.pointer (some ⟨g, 0, none⟩), awV 7 0 9 (.slice none 0 0)] w fun e w' => e = .returned (.agg #[.int .u64 0, .int .u64 2, .int .i64 0]) ∧ Sd ⟨I, R, numB I 0 1⟩ g 1 1 (litT A4h A4n) w' := by
  obtain ⟨ρ, hH, hbd, hI⟩ := hS.lit
  exact aw_h hL aw4_sure ⟨ρ, hH, hbd, hI, by simp only [SV.Rel]⟩
theorem aw5_h (hL : Laid I) (hS : Sd ⟨I, R, numB I 0 1⟩ g 1 1 (litT A4h A4n) w) : Calls Tryz.prog 15 #[.pointer (some ⟨g, 0, none⟩)] w fun e w' => ∃ s c : Nat, e = .returned (.slice (some ⟨s, 0, none⟩) 1 c) ∧ 1 ≤ c ∧ w'.cell? ⟨s, 0, none⟩ = some (.int .u64 4202496) ∧ (∀ G ∈ R, ∀ b o, (b, o) ∈ G → w'.heap[b]? = some o) ∧ Fr (fun _ => False) I w' := by
  obtain ⟨ρ, hH, hbd, hI⟩ := hS.lit
  obtain ⟨b0, e0, hb0⟩ := hI.m
  refine (sure_step (C := ⟨I, R, numB I 0 1⟩) (blS_ok hL 0 1) aw5_sure rfl (vs := #[.pointer (some ⟨g, 0, none⟩)]) ?_ hH hbd).mono ?_
  · rw [e0]
    exact .cons (by simp only [SV.Rel]; exact ⟨g, hb0, rfl⟩) .nil
  rintro e w' ⟨v, ρ', rfl, hv, hH', hle, hbd'⟩
  obtain ⟨i1, i2, e1⟩ : ∃ i1 i2, A5v = .sl true i1 1 0 1 (.o i2 0) ∧ A5h.get i1 = some (.vec 22 1 [.l .u64 4202496] (.o i2 0)) := ⟨_, _, rfl, by kernel_rfl⟩
  obtain ⟨e1, e2⟩ := e1
  rw [e1] at hv
  simp only [SV.Rel] at hv
  obtain ⟨a, c, rfl, hc, hle1, hx⟩ := hv
  obtain ⟨gg, hg, ha⟩ := hx trivial
  have ha := ha (.inl (by omega))
  rw [Nat.zero_mul] at ha
  subst ha
  obtain ⟨G, R', hr, hp, _⟩ := hH'.focus e2
  obtain ⟨z, hz, _, _, hr⟩ := hr
  have hzc : z = c := by
    obtain ⟨y, hy, rfl⟩ := hz
    obtain ⟨y', hy', rfl⟩ := hc
    rw [hy] at hy'
    rw [Option.some.inj hy']
  subst hzc
  rcases hr with ⟨h0, _⟩ | ⟨g', cc, hg', rfl, _, hcs⟩
  · omega
  have : g' = gg := by rw [hg] at hg'; exact (Option.some.inj hg').symm
  subst this
  refine ⟨g', z, rfl, hle1, ?_, ?_, hH'.frB rfl (fun _ _ hG => hG) (by kernel_rfl)⟩
  · have hh := hp.has (g', .cells cc 22 (0, 0)) (by simp)
    rw [cell_blk hh]
    obtain ⟨v1, r1, e3, hv1, _⟩ := hcs
    simp only [SV.Rel] at hv1
    subst hv1
    obtain ⟨l, e4⟩ : ∃ l, cc.toList = .int .u64 4202496 :: l := by
      cases hcc : cc.toList with
      | nil => rw [hcc] at e3; cases e3
      | cons x l => rw [hcc] at e3; simp at e3; exact ⟨l, by rw [e3.1]⟩
    rw [← Array.getElem?_toList, e4]
    rfl
  · intro G hG b o hb
    obtain ⟨Gs, _, hp'⟩ := hH'
    exact hp'.has (b, o) (List.mem_flatten.2 ⟨G, List.mem_append.2 (.inr hG), hb⟩)
end SX
end Go.Proofs.YtnjaaagiindclaaGreatDoor

/-
  sets: whether a span is swept. No condition.
-/
namespace Go.Proofs.YtnjaaagiindclaaGreatDoor
open Go.RowKit Go.Deep
theorem swept_one {s m1 m2 m3 : Nat} {i1 i2 : List (Int × Value)} {i3 : List (Kd × Value)} {L : List It} (w : World) (h : Sets w s m1 m2 m3 i1 i2 i3 L) {x : It} (hx : x ∈ L) :
    Calls Tryz.prog 41 #[.pointer (some ⟨s, 0, none⟩), .int .i64 x.id] w fun e w' => e = .returned (.tuple #[.bool x.kd.2.2.2, .bool true]) ∧ w = w' := by
  obtain ⟨⟨c1, _, _⟩, _, _, _, _, _, d5⟩ := h.core.sight hx
  have hm := Lib.hid h.ids
  have hg := Lib.hid (h.find hx)
  clear h hx
  go_enter Tryz.func41, Tryz.ntmps41
  go_wp2_with (refine wpList_map_lookup (by rfl) keyLaw_i Tryz.underlying159 _ _ false (by rfl) hm.out x.id (.pointer none) zero_item (by rfl) (by rfl) ?_; simp only [hg.out, Bool.false_eq_true, if_false])
  all_goals (refine ⟨rfl, .tuple #[.bool x.kd.2.2.2, .bool true], ?_, rfl, rfl⟩; first | rfl | (simp [go_sem, results]; done) | (go_simp; done))
theorem swept_none {s m1 m2 m3 : Nat} {i1 i2 : List (Int × Value)} {i3 : List (Kd × Value)} {L : List It} (w : World) (h : Sets w s m1 m2 m3 i1 i2 i3 L) (z : Int) (hz : ∀ x ∈ L, x.id ≠ z) :
    Calls Tryz.prog 41 #[.pointer (some ⟨s, 0, none⟩), .int .i64 z] w fun e w' => e = .returned (.tuple #[.bool false, .bool false]) ∧ w = w' := by
  have c1 := (blk3 h.core.root).1
  have hm := Lib.hid h.ids
  have hg := Lib.hid (h.find_none hz)
  clear h hz
  go_enter Tryz.func41, Tryz.ntmps41
  go_wp2_with (refine wpList_map_lookup (by rfl) keyLaw_i Tryz.underlying159 _ _ false (by rfl) hm.out z (.pointer none) zero_item (by rfl) (by rfl) ?_; simp only [hg.out, Bool.false_eq_true, if_false])
  all_goals (refine ⟨rfl, .tuple #[.bool false, .bool false], ?_, rfl, rfl⟩; first | rfl | (simp [go_sem, results]; done) | (go_simp; done))
namespace SX
def stSwept (l : List (List Int)) : List SV → Option (SV × List (List Int))
  | a1 :: [] => (match litK .i64 a1 with
    | some id => (match l.find? (idB id) with
      | some r => some (.tup [if zB (rget r 5) 1 then .tt else .ff, .tt], l)
      | none => some (.tup [.ff, .ff], l))
    | none => none)
  | _ => none
theorem ok_swept : ObjOk Tryz.prog SetsM 41 stSwept where
  enter := enter_of Tryz.func41 (bodyOf_eq (by kernel_rfl)) (by kernel_rfl)
  calls := by
    intro l us0 v l' h ρ us hr w g F hm
    unfold stSwept at h
    split at h <;> try cases h
    split at h <;> try cases h
    rename_i a1 z e1
    simp only [RelL] at hr
    obtain ⟨v1, _, rfl, h1, rfl⟩ := hr
    have := litK_rel e1 h1
    subst_vars
    obtain ⟨L, rfl, hM, hlen⟩ := hm
    have hM2 := hM.is
    obtain ⟨m1, m2, m3, i1, i2, i3, hS, _⟩ := hM2
    rw [List.find?_map] at h
    cases hf : L.find? (idB z ∘ itRow) with
    | none =>
      rw [hf] at h
      injection h with h; injection h with ha hb
      subst ha hb
      have hz : ∀ x ∈ L, x.id ≠ z := fun x hx he => by
        have := List.find?_eq_none.1 hf x hx
        exact this (idB_iff.2 he)
      refine (swept_none w hS z hz).mono ?_
      rintro e w' ⟨rfl, rfl⟩
      exact ⟨_, F, rfl, rel_tup2 (by simp only [SV.Rel]) (by simp only [SV.Rel]), ⟨L, rfl, hM, hlen⟩, .refl _ _, fun _ h => .inl h⟩
    | some x =>
      rw [hf] at h
      injection h with h; injection h with ha hb
      subst ha hb
      have hx : x ∈ L := List.mem_of_find?_eq_some hf
      have hi : x.id = z := idB_iff.1 (List.find?_some (p := idB z ∘ itRow) hf)
      subst hi
      refine (swept_one w hS hx).mono ?_
      rintro e w' ⟨rfl, rfl⟩
      have hb : (if zB (rget (itRow x) 5) 1 then SV.tt else SV.ff) = if x.kd.2.2.2 then SV.tt else SV.ff := by
        show (if zB (b2i x.kd.2.2.2) 1 then SV.tt else SV.ff) = _
        cases x.kd.2.2.2 <;> rfl
      exact ⟨_, F, rfl, rel_tup2 (by rw [hb]; exact rel_b _ _) (by simp only [SV.Rel]), ⟨L, rfl, hM, hlen⟩, .refl _ _, fun _ h => .inl h⟩
end SX
end Go.Proofs.YtnjaaagiindclaaGreatDoor

/-
  cache: what is held of a class; nothing is given back where nothing is held. No condition.
-/
namespace Go.Proofs.YtnjaaagiindclaaGreatDoor
open Go.RowKit Go.Deep
attribute [local go_sem] Oper.semAt_some
theorem kind_h (b : Bool) (w : World) : Calls Tryz.prog 85 #[.bool b] w fun e w' => e = .returned (.int .i64 ((if b then 1 else 0 : Nat) : Int)) ∧ w = w' := by
  cases b
  · go_enter Tryz.func85, Tryz.ntmps85
    go_wp2
    go_ret
    exact ⟨rfl, rfl⟩
  · go_enter Tryz.func85, Tryz.ntmps85
    go_wp2
    go_ret
    exact ⟨rfl, rfl⟩
theorem right_h (k : Nat) (h1 : 0 < k) (h2 : k < 68) (w : World) : Calls Tryz.prog 84 #[.int .i64 (k : Int)] w fun e w' => e = .returned (.bool true) ∧ w = w' := by
  have g1 : decide ((k : Int) > 0) = true := by simp; omega
  have g2 : decide ((k : Int) < 68) = true := by simp; omega
  have g3 : (0 : Int) < (k : Int) := by omega
  have g4 : (k : Int) < 68 := by omega
  go_enter Tryz.func84, Tryz.ntmps84
  go_wp2
  go_ret
  exact ⟨rfl, rfl⟩
theorem held_h {c : Nat} {cs : Array Value} (w : World) (hb : w.heap[c]? = some (.cells cs 156 (0, 0))) (k : Nat) (h1 : 0 < k) (h2 : k < 68) (b : Bool) (z : Int) (hz : cs[2 + k * 2 + (if b then 1 else 0 : Nat)]? = some (.int .i64 z)) :
    Calls Tryz.prog 40 #[.pointer (some ⟨c, 0, none⟩), .int .i64 (k : Int), .bool b] w fun e w' => e = .returned (.int .i64 z) ∧ Fr (fun _ => False) w w' := by
  have hR := Lib.hid (fun (U : World) => right_h k h1 h2 U)
  have hK := Lib.hid (fun (U : World) => kind_h b U)
  have hc : w.cell? ⟨c, 2 + k * 2 + (if b then 1 else 0 : Nat), none⟩ = some (.int .i64 z) := by rw [cell_blk hb]; exact hz
  clear hb hz
  obtain ⟨y, hy⟩ : ∃ y : Nat, y = (if b then 1 else 0 : Nat) := ⟨_, rfl⟩
  have hy2 : y < 2 := by rw [hy]; split <;> omega
  rw [← hy] at hK hc
  clear hy
  have g1 : (0 : Int) ≤ (k : Int) := by omega
  have g2 : (k : Int) < 68 := by omega
  have g3 : (0 : Int) ≤ (y : Int) := by omega
  have g4 : (y : Int) < 2 := by omega
  have g5 : ((k : Int)).toNat = k := by omega
  have g6 : ((y : Int)).toNat = y := by omega
  have hmx : Tryz.prog.follows .mixedOrders = true := by kernel_rfl
  go_enter Tryz.func40, Tryz.ntmps40
  go_wp2_with (go_at_call 84; refine (hR.out _).mono ?_; rintro e w1 ⟨rfl, rfl⟩)
  go_region_with (go_at_call 85; refine (hK.out _).mono ?_; rintro e w1 ⟨rfl, rfl⟩)
  all_goals go_wp2
  all_goals (refine ⟨rfl, .int .i64 z, ?_, rfl, (Fr.refl _ w).drew⟩; first | rfl | (simp [go_sem, results]; done) | (go_simp; done))
theorem let_h {c : Nat} {cs : Array Value} (w : World) (hb : w.heap[c]? = some (.cells cs 156 (0, 0))) (k : Nat) (h1 : 0 < k) (h2 : k < 68) (b : Bool) (hz : cs[2 + k * 2 + (if b then 1 else 0 : Nat)]? = some (.int .i64 0)) :
    Calls Tryz.prog 132 #[.pointer (some ⟨c, 0, none⟩), .int .i64 (k : Int), .bool b] w fun e w' => e = .returned (.tuple #[]) ∧ Fr (fun _ => False) w w' := by
  have hH := Lib.hid (held_h w hb k h1 h2 b 0 hz)
  clear hb hz
  go_enter Tryz.func132, Tryz.ntmps132
  go_wp2_with (go_at_call 40; refine hH.out.mono ?_; rintro e w1 ⟨rfl, hf⟩; replace hf := Lib.hid hf)
  all_goals (refine ⟨rfl, .tuple #[], ?_, rfl, hf.out⟩; first | rfl | (simp [go_sem, results]; done) | (go_simp; done))
namespace SX
/-- what is held of a class -/
noncomputable def heldAt (h : Heap) (b : Nat) (i : Nat) : Option Int := match h.get b with
  | some ob => (match ob with
    | .cells t cs => if Nat.beq t 156 && Nat.blt i cs.length then litK .i64 (lget cs i) else none
    | _ => none)
  | none => none
theorem heldAt_is {C : Ctx} {ρ : Ren} {h : Heap} {w : World} {b i g : Nat} {z : Int} (H : Holds C ρ h w) (hg : ρ b = some g) (e : heldAt h b i = some z) : ∃ c, w.heap[g]? = some (.cells c 156 (0, 0)) ∧ c[i]? = some (.int .i64 z) := by
  unfold heldAt at e
  cases hob : h.get b with
  | none => rw [hob] at e; cases e
  | some ob =>
    rw [hob] at e
    cases ob with
    | cells t cs =>
      simp only at e
      split at e
      next hc =>
        simp only [Bool.and_eq_true, Nat.blt_eq] at hc
        have ht := Nat.eq_of_beq_eq_true hc.1
        subst ht
        obtain ⟨G, R', ⟨g', c, hg', rfl, hrel⟩, hp, _⟩ := H.focus hob
        have eg := hg.symm.trans hg'
        injection eg with eg
        subst eg
        obtain ⟨v, hv, hv2⟩ := hrel.get? (i := i) hc.2
        rw [litK_rel e hv2] at hv
        exact ⟨c, hp.blk, by rw [← Array.getElem?_toList]; exact hv⟩
      · cases e
    | _ => cases e
def npN (b : Bool) : Nat := match b with | true => 1 | false => 0
noncomputable def heldOf (args : List SV) (h : Heap) : Option Int := match args with
  | [a, x, y] => (match a with
    | .p b o => (match o with
      | .c o => (match litK .i64 x with
        | some k => (match k with
          | .ofNat k => (match bitB y with
            | some np => if Nat.beq o 0 && (Nat.blt 0 k && Nat.blt k 68) then heldAt h b (2 + k * 2 + npN np) else none
            | none => none)
          | .negSucc _ => none)
        | none => none)
      | _ => none)
    | _ => none)
  | _ => none
theorem heldOf_is {args : List SV} {h : Heap} {z : Int} (e : heldOf args h = some z) {C : Ctx} {ρ : Ren} {w : World} {vs : Array Value} (hv : RelL ρ args vs.toList) (H : Holds C ρ h w) :
    ∃ (g k : Nat) (b : Bool) (c : Array Value), vs = #[.pointer (some ⟨g, 0, none⟩), .int .i64 (k : Int), .bool b] ∧ 0 < k ∧ k < 68 ∧ w.heap[g]? = some (.cells c 156 (0, 0)) ∧ c[2 + k * 2 + (if b then 1 else 0 : Nat)]? = some (.int .i64 z) := by
  unfold heldOf at e
  split at e <;> try cases e
  split at e <;> try cases e
  split at e <;> try cases e
  split at e <;> try cases e
  split at e <;> try cases e
  split at e <;> try cases e
  split at e <;> try cases e
  rename_i a x y a2 blk off o oI kI k hk oo np hnp hc
  simp only [Bool.and_eq_true, Nat.blt_eq] at hc
  have ho := Nat.eq_of_beq_eq_true hc.1
  subst ho
  obtain ⟨v1, _, e1, r1, v2, _, rfl, r2, v3, _, rfl, r3, rfl⟩ := hv
  have h2 := litK_rel hk r2
  have h3 := bitB_rel hnp r3
  simp only [SV.Rel] at r1
  obtain ⟨g, hg, rfl⟩ := r1
  subst h2 h3
  obtain ⟨c, hc1, hc2⟩ := heldAt_is H hg e
  refine ⟨g, k, np, c, by rw [← Array.toList_inj, e1]; rfl, hc.2.1, hc.2.2, hc1, ?_⟩
  have : (if np then 1 else 0 : Nat) = npN np := by cases np <;> rfl
  rw [this]
  exact hc2
noncomputable def heldB : List SV → Heap → Bool := fun args h => match heldOf args h with | some _ => true | none => false
noncomputable def spHeld : Spec := fun args h n K => match heldOf args h with
  | some z => K true (.l .i64 z) h n
  | none => .fail 1001
theorem spHeld_ok (𝔅 : BigRep) : SpecEnters Tryz.prog 𝔅 40 spHeld where
  enter := enter_of Tryz.func40 (bodyOf_eq (by kernel_rfl)) (by kernel_rfl)
  calls := by
    intro C Q args h n K hB hk ρ w vs hv hH hbd
    unfold spHeld at hk
    split at hk
    next z hz =>
      obtain ⟨g, k, b, c, rfl, h1, h2, h3, h4⟩ := heldOf_is hz hv hH
      refine (held_h w h3 k h1 h2 b z h4).mono ?_
      rintro e w' ⟨rfl, hf⟩
      exact ⟨true, _, .l .i64 z, h, n, ρ, rfl, by simp only [SV.Rel], hH.quiet hf, .refl _, hbd, hk⟩
    · exact hk.elim
noncomputable def letB : List SV → Heap → Bool := fun args h => match heldOf args h with | some z => zB z 0 | none => false
noncomputable def spLet : Spec := fun args h n K => match heldOf args h with
  | some z => if zB z 0 then K true (.tup []) h n else .fail 1002
  | none => .fail 1003
theorem spLet_ok (𝔅 : BigRep) : SpecEnters Tryz.prog 𝔅 132 spLet where
  enter := enter_of Tryz.func132 (bodyOf_eq (by kernel_rfl)) (by kernel_rfl)
  calls := by
    intro C Q args h n K hB hk ρ w vs hv hH hbd
    unfold spLet at hk
    split at hk
    next z hz =>
      split at hk
      next hz0 =>
        have := zB_eq hz0
        subst this
        obtain ⟨g, k, b, c, rfl, h1, h2, h3, h4⟩ := heldOf_is hz hv hH
        refine (let_h w h3 k h1 h2 b h4).mono ?_
        rintro e w' ⟨rfl, hf⟩
        exact ⟨true, _, .tup [], h, n, ρ, rfl, by simp only [SV.Rel, RelL]; exact ⟨_, rfl, rfl⟩, hH.quiet hf, .refl _, hbd, hk⟩
      · exact hk.elim
    · exact hk.elim
/-- the contracts of a cache: what is held of a class -/
noncomputable def wtH (l : List (FuncId × Spec)) : List (FuncId × Spec) :=
  (40, pickS heldB spHeld (runP Tryz.prog l 40 Tryz.f40)) ::
  (132, pickS letB spLet (runP Tryz.prog l 132 Tryz.f132)) :: l
theorem wtH_ok {𝔅 : BigRep} {l : List (FuncId × Spec)} (h : ∀ x ∈ l, SpecOk Tryz.prog 𝔅 x.1 x.2) : ∀ x ∈ wtH l, SpecOk Tryz.prog 𝔅 x.1 x.2 :=
  cons_ok (.inl (pickS_ok (spHeld_ok 𝔅) (runP_ok fit h Tryz.func40 (by kernel_rfl))))
    (cons_ok (.inl (pickS_ok (spLet_ok 𝔅) (runP_ok fit h Tryz.func132 (by kernel_rfl)))) h)
end SX
end Go.Proofs.YtnjaaagiindclaaGreatDoor

/-
  mheap: how Spans compares two spans. No condition.
-/
namespace Go.Proofs.YtnjaaagiindclaaGreatDoor
open Go.RowKit Go.Deep
attribute [local go_sem] Oper.semAt_some
def cmpI (x y : Nat) : Int := if x < y then -1 else if y < x then 1 else 0
theorem nan_h (x : Nat) (w : World) : Calls Tryz.prog 138 #[.int .u64 (x : Int)] w fun e w' => e = .returned (.bool false) ∧ w = w' := by
  go_enter Tryz.func138, Tryz.ntmps138
  go_wp2
  go_ret
  exact ⟨rfl, rfl⟩
theorem compare_h (x y : Nat) (w : World) : Calls Tryz.prog 80 #[.int .u64 (x : Int), .int .u64 (y : Int)] w fun e w' => e = .returned (.int .i64 (cmpI x y)) ∧ w = w' := by
  have hN := Lib.hid (fun (z : Nat) (U : World) => nan_h z U)
  rcases Nat.lt_trichotomy x y with h | h | h
  · have e : cmpI x y = -1 := by unfold cmpI; rw [if_pos h]
    rw [e]
    clear e
    have g1 : decide (x < y) = true := by simp; omega
    clear h
    go_enter Tryz.func80, Tryz.ntmps80
    go_wp2_with (go_at_call 138; refine (hN.out _ _).mono ?_; rintro e w1 ⟨rfl, rfl⟩)
    all_goals (refine ⟨rfl, .int .i64 (-1), ?_, rfl, rfl⟩; first | rfl | (simp [go_sem, results]; done) | (go_simp; done))
  · have e : cmpI x y = 0 := by unfold cmpI; rw [if_neg (by omega), if_neg (by omega)]
    rw [e]
    clear e
    have g1 : decide (x < y) = false := by simp; omega
    have g2 : decide (y < x) = false := by simp; omega
    clear h
    go_enter Tryz.func80, Tryz.ntmps80
    go_wp2_with (go_at_call 138; refine (hN.out _ _).mono ?_; rintro e w1 ⟨rfl, rfl⟩)
    all_goals (refine ⟨rfl, .int .i64 (0), ?_, rfl, rfl⟩; first | rfl | (simp [go_sem, results]; done) | (go_simp; done))
  · have e : cmpI x y = 1 := by unfold cmpI; rw [if_neg (by omega), if_pos h]
    rw [e]
    clear e
    have g1 : decide (x < y) = false := by simp; omega
    have g2 : decide (y < x) = true := by simp; omega
    clear h
    go_enter Tryz.func80, Tryz.ntmps80
    go_wp2_with (go_at_call 138; refine (hN.out _ _).mono ?_; rintro e w1 ⟨rfl, rfl⟩)
    all_goals (refine ⟨rfl, .int .i64 (1), ?_, rfl, rfl⟩; first | rfl | (simp [go_sem, results]; done) | (go_simp; done))
/-- a span's cells -/
structure SpanAt (w : World) (s : Nat) (z0 z1 z2 z3 : Int) (z4 : Bool) (z5 z6 z7 : Int) (z8 z9 : Bool) : Prop where
  c0 : w.cell? ⟨s, 0, none⟩ = some (.int .u64 z0)
  c1 : w.cell? ⟨s, 1, none⟩ = some (.int .i64 z1)
  c2 : w.cell? ⟨s, 2, none⟩ = some (.int .i64 z2)
  c3 : w.cell? ⟨s, 3, none⟩ = some (.int .i64 z3)
  c4 : w.cell? ⟨s, 4, none⟩ = some (.bool z4)
  c5 : w.cell? ⟨s, 5, none⟩ = some (.int .i64 z5)
  c6 : w.cell? ⟨s, 6, none⟩ = some (.int .i64 z6)
  c7 : w.cell? ⟨s, 7, none⟩ = some (.int .i64 z7)
  c8 : w.cell? ⟨s, 8, none⟩ = some (.bool z8)
  c9 : w.cell? ⟨s, 9, none⟩ = some (.bool z9)
theorem info_h {s : Nat} (w : World) {z0 z1 z2 z3 : Int} {z4 : Bool} {z5 z6 z7 : Int} {z8 z9 : Bool} (h : SpanAt w s z0 z1 z2 z3 z4 z5 z6 z7 z8 z9) :
    Calls Tryz.prog 35 #[.pointer (some ⟨s, 0, none⟩)] w fun e w' => e = .returned (.agg #[.int .u64 z0, .int .i64 z1, .int .i64 z2, .int .i64 z3, .bool z4, .int .i64 z5, .int .i64 z6, .int .i64 z7, .bool z8, .bool z9]) ∧ ∃ o, w' = w.alloc o := by
  have up : ∀ (o : Obj) (i : Nat) (v : Value), w.cell? ⟨s, i, none⟩ = some v → (w.alloc o).cell? ⟨s, i, none⟩ = some v := fun o i v h => (World.cell?_of_block (heap_alloc_ne (World.block_lt_of_cell? _ _ h))).trans h
  have h0 := fun o => up o _ _ h.c0
  have h1 := fun o => up o _ _ h.c1
  have h2 := fun o => up o _ _ h.c2
  have h3 := fun o => up o _ _ h.c3
  have h4 := fun o => up o _ _ h.c4
  have h5 := fun o => up o _ _ h.c5
  have h6 := fun o => up o _ _ h.c6
  have h7 := fun o => up o _ _ h.c7
  have h8 := fun o => up o _ _ h.c8
  have h9 := fun o => up o _ _ h.c9
  clear up h
  go_enter Tryz.func35, Tryz.ntmps35
  go_wp2
  all_goals (refine ⟨rfl, .agg #[.int .u64 z0, .int .i64 z1, .int .i64 z2, .int .i64 z3, .bool z4, .int .i64 z5, .int .i64 z6, .int .i64 z7, .bool z8, .bool z9], ?_, rfl, _, rfl⟩; first | rfl | (simp [go_sem, results]; done) | (go_simp; done))
theorem SpanAt.grown {w : World} {s : Nat} {z0 z1 z2 z3 : Int} {z4 : Bool} {z5 z6 z7 : Int} {z8 z9 : Bool} (h : SpanAt w s z0 z1 z2 z3 z4 z5 z6 z7 z8 z9) (n : Nat) (os : Array Obj) : SpanAt (Go.Sort.grow (w.drewN n) os) s z0 z1 z2 z3 z4 z5 z6 z7 z8 z9 where
  c0 := cell_grown (World.block_lt_of_cell? _ _ h.c0) h.c0 n os
  c1 := cell_grown (World.block_lt_of_cell? _ _ h.c1) h.c1 n os
  c2 := cell_grown (World.block_lt_of_cell? _ _ h.c2) h.c2 n os
  c3 := cell_grown (World.block_lt_of_cell? _ _ h.c3) h.c3 n os
  c4 := cell_grown (World.block_lt_of_cell? _ _ h.c4) h.c4 n os
  c5 := cell_grown (World.block_lt_of_cell? _ _ h.c5) h.c5 n os
  c6 := cell_grown (World.block_lt_of_cell? _ _ h.c6) h.c6 n os
  c7 := cell_grown (World.block_lt_of_cell? _ _ h.c7) h.c7 n os
  c8 := cell_grown (World.block_lt_of_cell? _ _ h.c8) h.c8 n os
  c9 := cell_grown (World.block_lt_of_cell? _ _ h.c9) h.c9 n os
theorem info_gr {w : World} {s : Nat} {z0 z1 z2 z3 : Int} {z4 : Bool} {z5 z6 z7 : Int} {z8 z9 : Bool} (h : SpanAt w s z0 z1 z2 z3 z4 z5 z6 z7 z8 z9) (n : Nat) (os : Array Obj) :
    Calls Tryz.prog 35 #[.pointer (some ⟨s, 0, none⟩)] (Go.Sort.grow (w.drewN n) os) fun e w'' => e = .returned (.agg #[.int .u64 z0, .int .i64 z1, .int .i64 z2, .int .i64 z3, .bool z4, .int .i64 z5, .int .i64 z6, .int .i64 z7, .bool z8, .bool z9]) ∧ ∃ p : GrownBy, w'' = Go.Sort.grow (w.drewN p.n) p.os := by
  refine (info_h _ (h.grown n os)).mono ?_
  rintro e w' ⟨rfl, o, rfl⟩
  exact ⟨rfl, ⟨n, os ++ #[o]⟩, by rw [Go.Sort.alloc_eq_grow, Go.Sort.grow_grow]⟩
theorem fr_grown (w : World) (n : Nat) (os : Array Obj) : Fr (fun _ => False) w (Go.Sort.grow (w.drewN n) os) :=
  ⟨rfl, rfl, rfl, by rw [Go.Sort.size_grow]; exact Nat.le_add_right _ _, fun b hb _ => Go.Sort.heap_grow_old (w.drewN n) os hb⟩
theorem zero_span (w : World) : (zeroValue 90).run Tryz.prog w = .ok (.pointer none) w := by
  have h : (Tryz.prog.info? 90).map (·.zero) = some (some (.pointer none)) := by kernel_rfl
  cases hi : Tryz.prog.info? 90 with
  | none => rw [hi] at h; simp at h
  | some i =>
    rw [hi] at h
    simp only [Option.map_some, Option.some.injEq] at h
    simp [zeroValue, run_typeInfo w hi, h, Sem.run_bind, Result.andThen]
theorem field_base {cs : Array Value} {v : Value} (h : cs[0]? = some v) (U : World) : (Instr.field 51 (.agg cs) 0).run Tryz.prog U = .ok v U := by
  have hu : (Tryz.prog.underlying 51).bind (fun d => match d with | .struct F => (F[0]?).map (fun fd => (fd.type, fd.offset)) | _ => none) = some (22, 0) := by kernel_rfl
  cases hF : Tryz.prog.underlying 51 with
  | none => rw [hF] at hu; cases hu
  | some d =>
    rw [hF] at hu
    cases d with
    | struct F =>
      simp only [Option.bind_some] at hu
      cases hfd : F[0]? with
      | none => rw [hfd] at hu; cases hu
      | some fd =>
        rw [hfd] at hu
        simp only [Option.map_some, Option.some.injEq, Prod.mk.injEq] at hu
        simp [Instr.field, run_underlying hF, hfd, asAgg, part, hu.1, hu.2, Tryz.isAgg22, h]
    | _ => cases hu
set_option maxRecDepth 100000 in
set_option maxHeartbeats 4000000 in
theorem spcmp_h {bx g bm s1 s2 b1 b2 : Nat} {m : List (Int × Value)} {a c : Int} {z1 z2 z3 : Int} {z4 : Bool} {z5 z6 z7 : Int} {z8 z9 : Bool} {y1 y2 y3 : Int} {y4 : Bool} {y5 y6 y7 : Int} {y8 y9 : Bool} (w : World) (hbx : w.cell? ⟨bx, 0, none⟩ = some (.pointer (some ⟨g, 0, none⟩))) (h4 : w.cell? ⟨g, 4, none⟩ = some (.map (some bm))) (hm : MapIs intE w bm m)
    (e1 : mapGet m a = some (.pointer (some ⟨s1, 0, none⟩))) (e2 : mapGet m c = some (.pointer (some ⟨s2, 0, none⟩))) (hs1 : SpanAt w s1 (b1 : Int) z1 z2 z3 z4 z5 z6 z7 z8 z9) (hs2 : SpanAt w s2 (b2 : Int) y1 y2 y3 y4 y5 y6 y7 y8 y9) :
    Calls Tryz.prog 79 #[.int .i64 a, .int .i64 c, .pointer (some ⟨bx, 0, none⟩)] w fun e w' => e = .returned (.int .i64 (cmpI b1 b2)) ∧ ∃ n os, w' = Go.Sort.grow (w.drewN n) os := by
  have HI1 := Lib.hid (info_gr hs1)
  have HI2 := Lib.hid (info_gr hs2)
  have HC := Lib.hid (fun (n : Nat) (os : Array Obj) => show Calls Tryz.prog 80 #[.int .u64 (b1 : Int), .int .u64 (b2 : Int)] (Go.Sort.grow (w.drewN n) os) fun e w'' => e = .returned (.int .i64 (cmpI b1 b2)) ∧ ∃ p : GrownBy, w'' = Go.Sort.grow (w.drewN p.n) p.os from (compare_h b1 b2 _).mono (by rintro e w' ⟨rfl, rfl⟩; exact ⟨rfl, ⟨n, os⟩, rfl⟩))
  have l1 : ∀ n os, (Instr.lookup 137 (.map (some bm)) (.int .i64 a) false).run Tryz.prog (Go.Sort.grow (w.drewN n) os) = .ok (.pointer (some ⟨s1, 0, none⟩)) (Go.Sort.grow (w.drewN n) os) := fun n os => by
    have h := run_map_lookup keyLaw_i Tryz.underlying137 (hm.fr (fr_grown w n os) (fun x => x)) a (.pointer none) (zero_span _) false
    rw [e1] at h
    simpa only [Option.getD_some, Bool.false_eq_true, if_false, ienc] using h
  have l2 : ∀ n os, (Instr.lookup 137 (.map (some bm)) (.int .i64 c) false).run Tryz.prog (Go.Sort.grow (w.drewN n) os) = .ok (.pointer (some ⟨s2, 0, none⟩)) (Go.Sort.grow (w.drewN n) os) := fun n os => by
    have h := run_map_lookup keyLaw_i Tryz.underlying137 (hm.fr (fr_grown w n os) (fun x => x)) c (.pointer none) (zero_span _) false
    rw [e2] at h
    simpa only [Option.getD_some, Bool.false_eq_true, if_false, ienc] using h
  have x0 : ∀ n os, (Go.Sort.grow (w.drewN n) os).cell? ⟨bx, 0, none⟩ = some (.pointer (some ⟨g, 0, none⟩)) := fun n os => cell_grown (World.block_lt_of_cell? _ _ hbx) hbx n os
  have x4 : ∀ n os, (Go.Sort.grow (w.drewN n) os).cell? ⟨g, 4, none⟩ = some (.map (some bm)) := fun n os => cell_grown (World.block_lt_of_cell? _ _ h4) h4 n os
  have f1 := field_base (cs := #[.int .u64 (b1 : Int), .int .i64 z1, .int .i64 z2, .int .i64 z3, .bool z4, .int .i64 z5, .int .i64 z6, .int .i64 z7, .bool z8, .bool z9]) (v := .int .u64 (b1 : Int)) rfl
  have f2 := field_base (cs := #[.int .u64 (b2 : Int), .int .i64 y1, .int .i64 y2, .int .i64 y3, .bool y4, .int .i64 y5, .int .i64 y6, .int .i64 y7, .bool y8, .bool y9]) (v := .int .u64 (b2 : Int)) rfl
  have hmx : Tryz.prog.follows .mixedOrders = true := by kernel_rfl
  clear hs1 hs2 hm e1 e2 hbx h4
  go_enter Tryz.func79, Tryz.ntmps79
  go_wp2_with fail
  go_quiet_grown (first
    | (go_at_call 35; exact HI1.out _ _)
    | (go_at_call 35; exact HI2.out _ _)
    | (go_at_call 80; exact HC.out _ _))
  go_wp2
  all_goals (refine ⟨rfl, .int .i64 (cmpI b1 b2), ?_, rfl, _, _, rfl⟩; first | rfl | (simp [go_sem, results]; done) | (go_simp; done))
namespace SX
def cmpB (x y : Nat) : Int := match Nat.blt x y with
  | true => .negSucc 0
  | false => (match Nat.blt y x with
    | true => .ofNat 1
    | false => .ofNat 0)
theorem cmpB_eq (x y : Nat) : cmpB x y = cmpI x y := by
  unfold cmpB cmpI
  cases h : Nat.blt x y with
  | true => rw [if_pos (by rw [Nat.blt_eq] at h; exact h)]; rfl
  | false =>
    have h1 : ¬ x < y := by intro h2; rw [← Nat.blt_eq, h] at h2; cases h2
    rw [if_neg h1]
    cases k : Nat.blt y x with
    | true => rw [if_pos (by rw [Nat.blt_eq] at k; exact k)]; rfl
    | false =>
      have h3 : ¬ y < x := by intro h2; rw [← Nat.blt_eq, k] at h2; cases h2
      rw [if_neg h3]; rfl
def getE : List (Int × SV) → Int → Option SV
  | [], _ => none
  | e :: es, z => if zB z e.1 then some e.2 else getE es z
theorem zB_refl : ∀ z : Int, zB z z = true
  | .ofNat n => Nat.beq_refl n
  | .negSucc n => Nat.beq_refl n
theorem MR.getE {ρ : Ren} {x : SV} : ∀ {es : List (Int × SV)} {m : List (Int × Value)}, MR ρ es m → ∀ {z : Int}, getE es z = some x → ∃ v, mapGet m z = some v ∧ x.Rel ρ v
  | [], _, _, _, h => by cases h
  | e :: es, m, r, z, h => by
    obtain ⟨v, q, rfl, r1, r2⟩ := r
    rw [mapGet_cons]
    have h' : (if zB z e.1 then some e.2 else SX.getE es z) = some x := h
    split at h'
    next hz =>
      rw [if_pos (zB_eq hz)]
      cases h'
      exact ⟨v, rfl, r1⟩
    next hz =>
      rw [if_neg (fun e => hz (by rw [e]; exact zB_refl _))]
      exact MR.getE r2 h'
theorem cells_h {C : Ctx} {ρ : Ren} {h : Heap} {w : World} {b : Nat} {t : TypeId} {cs : List SV} (H : Holds C ρ h w) (e : h.get b = some (.cells t cs)) : ∃ g c, ρ b = some g ∧ w.heap[g]? = some (.cells c t (0, 0)) ∧ RelL ρ cs c.toList := by
  obtain ⟨G, R', ⟨g, c, hg, rfl, hrel⟩, hp, _⟩ := H.focus e
  exact ⟨g, c, hg, hp.blk, hrel⟩
/-- what a span is, as it is known -/
def infoOk (cs : List SV) : Option (Int × Int × Int × Bool × Int × Int × Int × Bool × Bool) := match cs with
  | _ :: x1 :: x2 :: x3 :: x4 :: x5 :: x6 :: x7 :: x8 :: x9 :: _ => (match litK .i64 x1, litK .i64 x2, litK .i64 x3, bitB x4, litK .i64 x5, litK .i64 x6, litK .i64 x7, bitB x8, bitB x9 with
    | some z1, some z2, some z3, some z4, some z5, some z6, some z7, some z8, some z9 => some (z1, z2, z3, z4, z5, z6, z7, z8, z9)
    | _, _, _, _, _, _, _, _, _ => none)
  | _ => none
theorem infoOk_is {cs : List SV} {p : Int × Int × Int × Bool × Int × Int × Int × Bool × Bool} (h : infoOk cs = some p) : ∃ x0 x1 x2 x3 x4 x5 x6 x7 x8 x9 r, cs = x0 :: x1 :: x2 :: x3 :: x4 :: x5 :: x6 :: x7 :: x8 :: x9 :: r ∧
    litK .i64 x1 = some p.1 ∧ litK .i64 x2 = some p.2.1 ∧ litK .i64 x3 = some p.2.2.1 ∧ bitB x4 = some p.2.2.2.1 ∧ litK .i64 x5 = some p.2.2.2.2.1 ∧ litK .i64 x6 = some p.2.2.2.2.2.1 ∧ litK .i64 x7 = some p.2.2.2.2.2.2.1 ∧ bitB x8 = some p.2.2.2.2.2.2.2.1 ∧ bitB x9 = some p.2.2.2.2.2.2.2.2 := by
  unfold infoOk at h
  split at h
  next x0 x1 x2 x3 x4 x5 x6 x7 x8 x9 r =>
    split at h
    next z1 z2 z3 z4 z5 z6 z7 z8 z9 h1 h2 h3 h4 h5 h6 h7 h8 h9 =>
      cases h
      exact ⟨x0, x1, x2, x3, x4, x5, x6, x7, x8, x9, r, rfl, h1, h2, h3, h4, h5, h6, h7, h8, h9⟩
    · cases h
  · cases h
/-- a span's base -/
noncomputable def spanBase (h : Heap) (x : SV) : Option (Nat × Nat) := match x with
  | .p s f => (match f with
    | .c z => if Nat.beq z 0 then (match h.get s with
      | some o => (match o with
        | .cells _ cs => (match infoOk cs with
          | some _ => (match litK .u64 (lget cs 0) with
            | some i => (match i with
              | .ofNat b => some (s, b)
              | .negSucc _ => none)
            | none => none)
          | none => none)
        | _ => none)
      | none => none) else none
    | _ => none)
  | _ => none
theorem spanBase_is {C : Ctx} {ρ : Ren} {h : Heap} {w : World} {x : SV} {p : Nat × Nat} (H : Holds C ρ h w) (e : spanBase h x = some p) {v : Value} (hx : x.Rel ρ v) :
    ∃ g z1 z2 z3 z4 z5 z6 z7 z8 z9, v = .pointer (some ⟨g, 0, none⟩) ∧ SpanAt w g (p.2 : Int) z1 z2 z3 z4 z5 z6 z7 z8 z9 := by
  unfold spanBase at e
  split at e <;> try cases e
  split at e <;> try cases e
  split at e <;> try cases e
  split at e <;> try cases e
  split at e <;> try cases e
  split at e <;> try cases e
  split at e <;> try cases e
  split at e <;> try cases e
  rename_i s f z hz oo o t cs ho op pp hi oi i b hb
  have hz' := Nat.eq_of_beq_eq_true hz
  subst hz'
  simp only [SV.Rel] at hx
  obtain ⟨g, hg, rfl⟩ := hx
  obtain ⟨g', c, hg', hc, hrel⟩ := cells_h H ho
  have eg := hg.symm.trans hg'
  injection eg with eg
  subst eg
  obtain ⟨x0, x1, x2, x3, x4, x5, x6, x7, x8, x9, r, rfl, i1, i2, i3, i4, i5, i6, i7, i8, i9⟩ := infoOk_is hi
  have at' : ∀ (i : Nat) (y : SV), lget (x0 :: x1 :: x2 :: x3 :: x4 :: x5 :: x6 :: x7 :: x8 :: x9 :: r) i = y → i < 10 → ∃ v, w.cell? ⟨g, i, none⟩ = some v ∧ y.Rel ρ v := fun i y hy hi => by
    obtain ⟨v, hv, hv2⟩ := hrel.get? (i := i) (by simp only [List.length_cons]; omega)
    exact ⟨v, by rw [cell_blk hc, ← Array.getElem?_toList]; exact hv, hy ▸ hv2⟩
  obtain ⟨v0, k0, r0⟩ := at' 0 x0 rfl (by omega)
  obtain ⟨v1, k1, r1⟩ := at' 1 x1 rfl (by omega)
  obtain ⟨v2, k2, r2⟩ := at' 2 x2 rfl (by omega)
  obtain ⟨v3, k3, r3⟩ := at' 3 x3 rfl (by omega)
  obtain ⟨v4, k4, r4⟩ := at' 4 x4 rfl (by omega)
  obtain ⟨v5, k5, r5⟩ := at' 5 x5 rfl (by omega)
  obtain ⟨v6, k6, r6⟩ := at' 6 x6 rfl (by omega)
  obtain ⟨v7, k7, r7⟩ := at' 7 x7 rfl (by omega)
  obtain ⟨v8, k8, r8⟩ := at' 8 x8 rfl (by omega)
  obtain ⟨v9, k9, r9⟩ := at' 9 x9 rfl (by omega)
  rw [litK_rel hb r0] at k0
  rw [litK_rel i1 r1] at k1
  rw [litK_rel i2 r2] at k2
  rw [litK_rel i3 r3] at k3
  rw [bitB_rel i4 r4] at k4
  rw [litK_rel i5 r5] at k5
  rw [litK_rel i6 r6] at k6
  rw [litK_rel i7 r7] at k7
  rw [bitB_rel i8 r8] at k8
  rw [bitB_rel i9 r9] at k9
  exact ⟨g, _, _, _, _, _, _, _, _, _, rfl, k0, k1, k2, k3, k4, k5, k6, k7, k8, k9⟩
/-- the map of spans, from the closure's box -/
noncomputable def boxMap (h : Heap) (z : SV) : Option (List (Int × SV)) := match z with
  | .p bx f => (match f with
    | .c z => if Nat.beq z 0 then (match h.get bx with
      | some o => (match o with
        | .cells _ l => if Nat.blt 0 l.length then (match lget l 0 with
          | .p a f2 => (match f2 with
            | .c z2 => if Nat.beq z2 0 then (match h.get a with
              | some o2 => (match o2 with
                | .cells _ cs => if Nat.blt 4 cs.length then (match lget cs 4 with
                  | .m b => (match h.get b with
                    | some u => (match keysOf u with
                      | some _ => some (entsOf u)
                      | none => none)
                    | none => none)
                  | _ => none) else none
                | _ => none)
              | none => none) else none
            | _ => none)
          | _ => none) else none
        | _ => none)
      | none => none) else none
    | _ => none)
  | _ => none
theorem boxMap_is {C : Ctx} {ρ : Ren} {h : Heap} {w : World} {z : SV} {es : List (Int × SV)} (H : Holds C ρ h w) (e : boxMap h z = some es) {v : Value} (hz : z.Rel ρ v) :
    ∃ bx g bm m, v = .pointer (some ⟨bx, 0, none⟩) ∧ w.cell? ⟨bx, 0, none⟩ = some (.pointer (some ⟨g, 0, none⟩)) ∧ w.cell? ⟨g, 4, none⟩ = some (.map (some bm)) ∧ MapIs intE w bm m ∧ MR ρ es m := by
  unfold boxMap at e
  split at e <;> try cases e
  split at e <;> try cases e
  split at e <;> try cases e
  split at e <;> try cases e
  split at e <;> try cases e
  split at e <;> try cases e
  split at e <;> try cases e
  split at e <;> try cases e
  split at e <;> try cases e
  split at e <;> try cases e
  split at e <;> try cases e
  split at e <;> try cases e
  split at e <;> try cases e
  split at e <;> try cases e
  split at e <;> try cases e
  rename_i x0 bx f z1 hz1 oo o t l ho hl xl a f2 z2 hla hz2 oa o2 t2 cs hoa hcs x4 b hb4 ou u hu ok ks hks
  have hz1' := Nat.eq_of_beq_eq_true hz1
  subst hz1'
  have hz2' := Nat.eq_of_beq_eq_true hz2
  subst hz2'
  simp only [SV.Rel] at hz
  obtain ⟨gx, hgx, rfl⟩ := hz
  obtain ⟨es', rfl, rfl⟩ := keysOf_is hks
  obtain ⟨gx', c, hg', hc, hrel⟩ := cells_h H ho
  have eg := hgx.symm.trans hg'
  injection eg with eg
  subst eg
  obtain ⟨v0, hv0, hr0⟩ := hrel.get? (i := 0) (by simpa [Nat.blt_eq] using hl)
  rw [hla] at hr0
  simp only [SV.Rel] at hr0
  obtain ⟨g, hg, rfl⟩ := hr0
  obtain ⟨g', c2, hg', hc2, hrel2⟩ := cells_h H hoa
  have eg := hg.symm.trans hg'
  injection eg with eg
  subst eg
  obtain ⟨v4, hv4, hr4⟩ := hrel2.get? (i := 4) (by simpa [Nat.blt_eq] using hcs)
  rw [hb4] at hr4
  simp only [SV.Rel] at hr4
  obtain ⟨bm, hbm, rfl⟩ := hr4
  obtain ⟨G2, R2, ⟨g2, m2, hg2, hm2, hG2⟩, hp2, _⟩ := H.focus hu
  have eg := hbm.symm.trans hg2
  injection eg with eg
  subst eg
  have hM : MapIs intE w bm m2 := hp2.map hG2
  exact ⟨gx, g, bm, m2, rfl, by rw [cell_blk hc, ← Array.getElem?_toList]; exact hv0, by rw [cell_blk hc2, ← Array.getElem?_toList]; exact hv4, hM, hm2⟩
noncomputable def spCmp : Spec := fun args h n K => match args with
  | [x, y, z] => (match boxMap h z with
    | some es => (match litK .i64 x with
      | some a => (match litK .i64 y with
        | some c => (match getE es a with
          | some p => (match getE es c with
            | some q => (match spanBase h p with
              | some b1 => (match spanBase h q with
                | some b2 => K true (.l .i64 (cmpB b1.2 b2.2)) h n
                | none => .fail 1031)
              | none => .fail 1032)
            | none => .fail 1033)
          | none => .fail 1034)
        | none => .fail 1035)
      | none => .fail 1036)
    | none => .fail 1037)
  | _ => .fail 1038
theorem spCmp_ok (𝔅 : BigRep) : SpecEnters Tryz.prog 𝔅 79 spCmp where
  enter := enter_of Tryz.func79 (bodyOf_eq (by kernel_rfl)) (by kernel_rfl)
  calls := by
    intro C Q args h n K hB hk ρ w vs hv hH hbd
    unfold spCmp at hk
    split at hk <;> try exact hk.elim
    split at hk <;> try exact hk.elim
    split at hk <;> try exact hk.elim
    split at hk <;> try exact hk.elim
    split at hk <;> try exact hk.elim
    split at hk <;> try exact hk.elim
    split at hk <;> try exact hk.elim
    split at hk <;> try exact hk.elim
    rename_i x y z oes es hes oa a ha oc c hc op p hp oq q hq o1 b1 hb1 o2 b2 hb2
    obtain ⟨w1, _, e1, r1, w2, _, rfl, r2, w3, _, rfl, r3, rfl⟩ := hv
    have h1 := litK_rel ha r1
    have h2 := litK_rel hc r2
    subst h1 h2
    obtain ⟨bx, g, bm, m, rfl, hbx, h4, hM, hm⟩ := boxMap_is hH hes r3
    obtain ⟨u1, m1, ru1⟩ := MR.getE hm hp
    obtain ⟨u2, m2, ru2⟩ := MR.getE hm hq
    obtain ⟨s1, x1, x2, x3, x4, x5, x6, x7, x8, x9, rfl, hs1⟩ := spanBase_is hH hb1 ru1
    obtain ⟨s2, y1, y2, y3, y4, y5, y6, y7, y8, y9, rfl, hs2⟩ := spanBase_is hH hb2 ru2
    have ev : vs = #[.int .i64 a, .int .i64 c, .pointer (some ⟨bx, 0, none⟩)] := by rw [← Array.toList_inj, e1]
    subst ev
    refine (spcmp_h w hbx h4 hM m1 m2 hs1 hs2).mono ?_
    rintro e w' ⟨rfl, m, os, rfl⟩
    have hf := fr_grown w m os
    exact ⟨true, _, .l .i64 (cmpB b1.2 b2.2), h, n, ρ, rfl, by simp only [SV.Rel, cmpB_eq], hH.quiet hf, .refl _, hbd, hk⟩
end SX
end Go.Proofs.YtnjaaagiindclaaGreatDoor
