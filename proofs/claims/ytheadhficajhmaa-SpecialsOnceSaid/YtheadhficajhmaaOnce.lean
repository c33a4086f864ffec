/-
  SpecialsOnce: the walk's parts.
-/
import Derived.Test.YtheadhficajhmaaBetween
import Derived.Test.YtheadhficajhmaaMaps
import Derived.ChangeKeysEq
namespace Go.Proofs.Ytheadhficajhmaa
open Go.RowKit Go.Deep
open Sp (cells3 cell3 lt isHd Ok)

/-- a key of the law's map -/
def ekey (p : Int × Int) : Value := .agg #[.int .u64 p.1, .int .i64 p.2]

theorem keyLaw_key : KeyLaw Try.prog 47 ekey where
  now := ⟨_, Try.underlying47, fun a b => .inl rfl⟩
  check := fun empty z w => by
    have h1 : ∀ z W, (Instr.checkKey empty 9999 23 (.int .u64 z)).run Try.prog W = .ok () W := fun z W => by unfold Instr.checkKey; simp [run_underlying Try.underlying23]
    have h2 : ∀ z W, (Instr.checkKey empty 9999 3 (.int .i64 z)).run Try.prog W = .ok () W := fun z W => by unfold Instr.checkKey; simp [run_underlying Try.underlying3]
    have p1 : ∀ W, (part 23 #[.int .u64 z.1, .int .i64 z.2] 0).run Try.prog W = .ok (.int .u64 z.1) W := fun W => run_part_plain W (by simp [Program.plainKey, Try.underlying23]) rfl
    have p2 : ∀ W, (part 3 #[.int .u64 z.1, .int .i64 z.2] 1).run Try.prog W = .ok (.int .i64 z.2) W := fun W => run_part_plain W (by simp [Program.plainKey, Try.underlying3]) rfl
    have h0 : Instr.checkKey empty 10000 47 (ekey z) = Instr.checkKey empty (9999 + 1) 47 (ekey z) := rfl
    rw [h0]
    unfold Instr.checkKey
    simp only [Sem.run_bind, run_underlying Try.underlying47, Result.andThen, ekey]
    rw [← Array.forIn_toList]
    simp only [List.forIn_cons, List.forIn_nil]
    simp [p1, p2, h1, h2, Result.andThen]
  eq := fun a b w => by
    have e1 : ∀ x y W, (Op.equalIn 9999 23 (.int .u64 x) (.int .u64 y)).run Try.prog W = .ok (x == y) W := fun x y W => by unfold Op.equalIn; simp [run_underlying Try.underlying23]
    have e2 : ∀ x y W, (Op.equalIn 9999 3 (.int .i64 x) (.int .i64 y)).run Try.prog W = .ok (x == y) W := fun x y W => by unfold Op.equalIn; simp [run_underlying Try.underlying3]
    have p1 : ∀ (x y : Int) W, (part 23 #[.int .u64 x, .int .i64 y] 0).run Try.prog W = .ok (.int .u64 x) W := fun x y W => run_part_plain W (by simp [Program.plainKey, Try.underlying23]) rfl
    have p2 : ∀ (x y : Int) W, (part 3 #[.int .u64 x, .int .i64 y] 1).run Try.prog W = .ok (.int .i64 y) W := fun x y W => run_part_plain W (by simp [Program.plainKey, Try.underlying3]) rfl
    have hs : Try.prog.stoodInHeld 47 = false := by decide +kernel
    show (Op.equalIn (9999 + 1) _ _ _).run _ _ = _
    unfold Op.equalIn
    simp only [Sem.run_bind, run_underlying Try.underlying47, Result.andThen, ekey, run_program, hs]
    rw [← Array.forIn_toList]
    simp only [List.forIn_cons, List.forIn_nil]
    obtain ⟨a1, a2⟩ := a
    obtain ⟨b1, b2⟩ := b
    by_cases h1 : a1 = b1 <;> by_cases h2 : a2 = b2 <;> simp [p1, p2, e1, e2, Result.andThen, h1, h2]
  same := fun z => by simp [Instr.sameBits, ekey]

section
variable {w : World} {b : Nat} {m : List ((Int × Int) × Value)} {o : Oper} {ops : Array Oper} {rest : List Oper} {a : Act} {Q : Exit → Act → World → Prop}

theorem zero_bool (w : World) : (zeroValue 4).run Try.prog w = .ok (.bool false) w := by
  have h : (Try.prog.info? 4).map (·.zero) = some (some (.bool false)) := by kernel_rfl
  cases hi : Try.prog.info? 4 with
  | none => rw [hi] at h; simp at h
  | some i =>
    rw [hi] at h
    simp only [Option.map_some, Option.some.injEq] at h
    simp [zeroValue, run_typeInfo w hi, h, Sem.run_bind, Result.andThen]

theorem run_look {x y : Int} {v : Bool} (h : MapIs ekey w b m) (hv : (mapGet m (x, y)).getD (.bool false) = .bool v) (W : World) (hW : W.heap = w.heap) :
    (Instr.lookup 45 (.map (some b)) (.agg #[.int .u64 x, .int .i64 y]) false).run Try.prog W = .ok (.bool v) W := by
  have h' : MapIs ekey W b m := by unfold MapIs at h ⊢; rw [hW]; exact h
  have := run_map_lookup keyLaw_key Try.underlying45 h' (x, y) (.bool false) (zero_bool W) false
  simp only [hv, Bool.false_eq_true, if_false] at this
  exact this

theorem wpList_look (hgd : o.guard = none) (x ix : Operand) (ho : o.op = .lookup 45 x ix false) (h : MapIs ekey w b m) (k1 k2 : Int) (v : Bool) (hv : (mapGet m (k1, k2)).getD (.bool false) = .bool v)
    (hx : a.eval x = .map (some b)) (hk : a.eval ix = .agg #[.int .u64 k1, .int .i64 k2]) (hK : wpList Try.prog ops Q rest (a.put o.dst (.bool v)) w) : wpList Try.prog ops Q (o :: rest) a w :=
  wpList_map_lookup hgd keyLaw_key Try.underlying45 x ix false ho h (k1, k2) (.bool false) zero_bool hx hk (by simpa [hv] using hK)
end

/-- the map has the keys of the records -/
structure Met (M : Int) (l : List Rec) (m : List ((Int × Int) × Value)) : Prop where
  len : m.length = l.length
  val : ∀ p ∈ m, p.2 = .bool true
  key : ∀ a k, (a, k) ∈ m.map (·.1) ↔ ∃ q ∈ l, q.a = a ∧ q.k = k
  rng : ∀ q ∈ l, 0 ≤ q.a ∧ q.a ≤ M

theorem Met.nil (M : Int) : Met M [] [] := ⟨rfl, by simp, by simp, by simp⟩

theorem Met.get {M : Int} {l : List Rec} {m : List ((Int × Int) × Value)} (h : Met M l m) (hn : (m.map (·.1)).Nodup) {a k : Int} (hq : ∃ q ∈ l, q.a = a ∧ q.k = k) : (mapGet m (a, k)).getD (.bool false) = .bool true := by
  have h1 := (h.key a k).2 hq
  obtain ⟨⟨p, v⟩, hp, hpe⟩ := List.mem_map.1 h1
  simp only at hpe; subst hpe
  have hv := h.val _ hp
  simp only at hv; subst hv
  rw [(mapGet_some hn).2 hp]; rfl

theorem Met.not {M : Int} {l : List Rec} {m : List ((Int × Int) × Value)} (h : Met M l m) {a k : Int} (hq : ∀ q ∈ l, ¬ (q.a = a ∧ q.k = k)) : (mapGet m (a, k)).getD (.bool false) = .bool false ∧ (a, k) ∉ m.map (·.1) := by
  have h1 : (a, k) ∉ m.map (·.1) := fun hm => by
    obtain ⟨q, h2, h3⟩ := (h.key a k).1 hm
    exact hq q h2 h3
  rw [mapGet_none.2 h1]; exact ⟨rfl, h1⟩

theorem Met.add {M : Int} {xs ys : List Rec} {m : List ((Int × Int) × Value)} {a k d : Int} {b : Nat} (h : Met M (xs ++ ys) m) (h1 : 0 ≤ a ∧ a ≤ M) (hk : (a, k) ∉ m.map (·.1)) : Met M (xs ++ ⟨b, a, k, d⟩ :: ys) (mapSet m (a, k) (.bool true)) := by
  rw [mapSet_new hk]
  refine ⟨?_, ?_, fun a' k' => ?_, ?_⟩
  · have := h.len; simp only [List.length_append, List.length_cons, List.length_nil] at *; omega
  · intro p hp
    rcases List.mem_append.1 hp with hp | hp
    · exact h.val p hp
    · simp at hp; rw [hp]
  · have := h.key a' k'
    simp only [List.map_append, List.mem_append, List.map_cons, List.map_nil, List.mem_cons, List.not_mem_nil, or_false, Prod.mk.injEq] at this ⊢
    rw [this]
    constructor
    · rintro (⟨q, h2, h3⟩ | ⟨rfl, rfl⟩)
      · exact ⟨q, h2.elim .inl (fun x => .inr (.inr x)), h3⟩
      · exact ⟨⟨b, a', k', d⟩, .inr (.inl rfl), rfl, rfl⟩
    · rintro ⟨q, (h2 | rfl | h2), h3⟩
      · exact .inl ⟨q, .inl h2, h3⟩
      · exact .inr ⟨h3.1.symm, h3.2.symm⟩
      · exact .inl ⟨q, .inr h2, h3⟩
  · intro q hq
    simp only [List.mem_append, List.mem_cons] at hq
    rcases hq with hq | rfl | hq
    · exact h.rng q (by simp [hq])
    · exact h1
    · exact h.rng q (by simp [hq])

/-- keys in order are each there once -/
theorem keys_nodup {l : List Rec} (h : Ok l) : (l.map (fun q => (q.a, q.k))).Nodup := by
  have := h.ord
  rw [List.Nodup, List.pairwise_map]
  refine this.imp fun {x y} hxy => ?_
  unfold Sp.rlt at hxy
  intro he
  simp only [Prod.mk.injEq] at he
  omega

theorem Met.perm {M : Int} {l : List Rec} {m : List ((Int × Int) × Value)} (h : Met M l m) (ho : Ok l) (hn : (m.map (·.1)).Nodup) : (m.map (·.1)).Perm (l.map (fun q => (q.a, q.k))) := by
  rw [List.perm_ext_iff_of_nodup hn (keys_nodup ho)]
  rintro ⟨a, k⟩
  rw [h.key a k]
  simp only [List.mem_map, Prod.mk.injEq]

/-- those below and those at the end are all -/
theorem all_count {M : Int} {l : List Rec} (h : ∀ q ∈ l, 0 ≤ q.a ∧ q.a ≤ M) : (betw l 0 M).length + ((l.map (fun q => (q.a, q.k))).filter (fun p => p.1 == M)).length = l.length := by
  induction l with
  | nil => rfl
  | cons q l ih =>
    have ih := ih (fun x hx => h x (by simp [hx]))
    have hq := h q (by simp)
    unfold betw at ih ⊢
    by_cases he : q.a = M
    · rw [List.filter_cons_of_neg (by simp [he]), List.map_cons, List.filter_cons_of_pos (by simp [he])]
      simp only [List.length_cons]; omega
    · rw [List.filter_cons_of_pos (by simp only [Bool.and_eq_true, decide_eq_true_eq]; omega), List.map_cons, List.filter_cons_of_neg (by simpa using he)]
      simp only [List.length_cons]; omega

theorem met_count {M : Int} {l : List Rec} {m : List ((Int × Int) × Value)} {D : List (Int × Int)} (h : Met M l m) (ho : Ok l) (hn : (m.map (·.1)).Nodup) (hD : D.Nodup) (hs : ∀ p ∈ D, p ∈ m.map (·.1)) (ha : ∀ p ∈ m, p.1 ∈ D) :
    (betw l 0 M).length + (D.filter (fun p => p.1 == M)).length = m.length := by
  have hp : D.Perm (m.map (·.1)) := by
    rw [List.perm_ext_iff_of_nodup hD hn]
    intro a
    exact ⟨hs a, fun ha' => by obtain ⟨p, h1, h2⟩ := List.mem_map.1 ha'; rw [← h2]; exact ha p h1⟩
  rw [((hp.trans (h.perm ho hn)).filter _).length_eq, all_count h.rng, h.len]

/-- a key of the same place, three kinds: at most three -/
theorem kinds_le {l : List Rec} (h : Ok l) (a : Int) : (l.filter (fun r => r.a == a)).length ≤ 3 := by
  have ho := h.sub (List.filter_sublist (p := fun r => r.a == a) (l := l))
  have hall : ∀ r ∈ l.filter (fun r => r.a == a), r.a = a := fun r hr => by simpa using (List.mem_filter.1 hr).2
  generalize l.filter (fun r => r.a == a) = z at ho hall
  have hk := ho.kind
  have hr := ho.ord
  match z, hk, hr, hall with
  | [], _, _, _ => simp
  | [_], _, _, _ => simp
  | [_, _], _, _, _ => simp
  | [_, _, _], _, _, _ => simp
  | x :: y :: u :: v :: z, hk, hr, hall =>
    exfalso
    simp only [List.pairwise_cons, List.mem_cons, forall_eq_or_imp] at hr
    have a1 := hall x (by simp); have a2 := hall y (by simp); have a3 := hall u (by simp); have a4 := hall v (by simp)
    have k1 := hk x (by simp); have k2 := hk y (by simp); have k3 := hk u (by simp); have k4 := hk v (by simp)
    unfold Sp.rlt at hr
    omega

/-- records of the call's own, and the map -/
structure Om (B s mb : Nat) (l : List Rec) (m : List ((Int × Int) × Value)) (w0 w : World) : Prop where
  own : Own B s l w0 w
  map : MapIs ekey w mb m
  mB : B ≤ mb
  mf : ¬ Sp.fp s l mb

theorem MapIs.frk {w w' : World} {b : Nat} {m : List ((Int × Int) × Value)} (h : MapIs ekey w b m) {S : Nat → Prop} (hf : Fr S w w') (hs : ¬ S b) : MapIs ekey w' b m := by
  obtain ⟨es, c, h1, h2⟩ := h
  exact ⟨es, c, hf.at h1 hs, h2⟩

theorem Om.none {B s mb : Nat} {l : List Rec} {m : List ((Int × Int) × Value)} {w0 w w' : World} (h : Om B s mb l m w0 w) (hf : Fr (fun _ => False) w w') : Om B s mb l m w0 w' :=
  ⟨h.own.none hf, h.map.frk hf (fun x => x), h.mB, h.mf⟩

/-- what Add leaves -/
def Added2 (M : Int) (B s mb : Nat) (l : List Rec) (m : List ((Int × Int) × Value)) (a k : Int) (w0 w : World) (e : Ending) (w' : World) : Prop :=
  ∃ (c : Int) (l' : List Rec), e = .returned (.int .i64 c) ∧ Om B s mb l' m w0 w' ∧ Fr (Sp.fp s l) w w' ∧ l'.length ≤ l.length + 1 ∧
    (((k < 1 ∨ 3 < k) ∧ c = 1 ∧ Met M l' m) ∨ ((1 ≤ k ∧ k ≤ 3) ∧ (mapGet m (a, k)).getD (.bool false) = .bool true ∧ c = 34 ∧ Met M l' m) ∨
     ((1 ≤ k ∧ k ≤ 3) ∧ (mapGet m (a, k)).getD (.bool false) = .bool false ∧ c = 0 ∧ Met M l' (mapSet m (a, k) (.bool true))))

theorem added2 {M : Int} {B s mb : Nat} {l : List Rec} {m : List ((Int × Int) × Value)} {w0 w : World} (h : Om B s mb l m w0 w) (hm : Met M l m) (hB : B ≤ w.heap.size) (a k d : Int) (ha : 0 ≤ a ∧ a ≤ M) (hn : l.length ≤ 1000000) :
    Calls Try.prog 8 #[.pointer (some ⟨s, 0, none⟩), .int .u64 a, .int .i64 k, .int .u64 d] w (Added2 M B s mb l m a k w0 w) := by
  have hnd : (m.map (·.1)).Nodup := by obtain ⟨_, _, _, _, h1, _⟩ := h.map; exact h1
  by_cases hk : 1 ≤ k ∧ k ≤ 3
  · have hsp := Sp.split l a k
    have hx := Sp.split_lt l a k
    have hy := Sp.split_head l a k
    generalize l.takeWhile (lt a k) = xs at hsp hx
    generalize l.dropWhile (lt a k) = ys at hsp hy
    have hpl := Sp.place_of (s := s) hsp hx hy
    by_cases hh : isHd ys a k = true
    · refine (Sp.add_twice a k d w h.own.sp hsp hpl hk.1 hk.2 hh).mono fun e w' ⟨he, hw⟩ => ?_
      subst hw
      refine ⟨34, l, he, h, Fr.refl _ _, by omega, .inr (.inl ⟨hk, hm.get hnd ?_, rfl, hm⟩)⟩
      cases ys with
      | nil => simp [isHd] at hh
      | cons q ys => exact ⟨q, by rw [hsp]; simp, by simpa [isHd] using hh⟩
    · have hh' : isHd ys a k = false := by simpa using hh
      have hall := (hsp ▸ h.own.ok).tail hy
      have hno : ∀ q ∈ l, ¬ (q.a = a ∧ q.k = k) := by
        intro q hq ⟨h1, h2⟩
        rw [hsp] at hq
        rcases List.mem_append.1 hq with hq | hq
        · have := Sp.lt_iff.1 (hx q hq); omega
        · cases ys with
          | nil => simp at hq
          | cons p ys =>
            rcases List.mem_cons.1 hq with rfl | hq
            · simp [isHd, h1, h2] at hh'
            · have hp := hy p ys rfl
              have ho := (hsp ▸ h.own.ok).sub (List.sublist_append_right xs (p :: ys))
              have h3 := (List.pairwise_cons.1 ho.ord).1 q hq
              rw [Sp.lt_false] at hp
              unfold Sp.rlt at h3
              simp only [isHd, Bool.and_eq_false_iff, beq_eq_false_iff_ne] at hh'
              omega
      have hlt := h.map.lt
      refine (Sp.add_ok a k d w h.own.sp hsp hpl hk.1 hk.2 hh' (by omega)).mono fun e w' ⟨he, hi, hw⟩ => ?_
      refine ⟨0, _, he, ⟨⟨hi, ?_, fun b hb => ?_, h.own.fr.trans hw (fun b _ hb => h.own.fp b hb)⟩, h.map.frk hw h.mf, h.mB, fun hb => ?_⟩, hw, by rw [hsp]; simp; omega, .inr (.inr ⟨hk, (hm.not hno).1, rfl, ?_⟩)⟩
      · exact Ok.ins (q := ⟨w.heap.size, a, k, d⟩) (hsp ▸ h.own.ok) hx hy hh' hk
      · rcases fp_ins hb with h1 | rfl
        · exact h.own.fp b (by rw [hsp]; exact h1)
        · exact hB
      · rcases fp_ins hb with h1 | h1
        · exact h.mf (by rw [hsp]; exact h1)
        · simp only at h1; omega
      · subst hsp
        exact Met.add hm ha (hm.not hno).2
  · refine (Sp.add_arg s a k d w (by omega)).mono fun e w' ⟨he, hw⟩ => ?_
    subst hw
    exact ⟨1, l, he, h, Fr.refl _ _, by omega, .inl ⟨by omega, rfl, hm⟩⟩

theorem Ok.rest {l xs ys : List Rec} {a : Int} (h : Ok l) (hl : l = xs ++ ys) (hx : ∀ x ∈ xs, lt a 0 x = true) (hy : ∀ y z, ys = y :: z → lt a 0 y = false) :
    l.filter (fun r => !(r.a == a)) = xs ++ ys.dropWhile (fun r => r.a == a) := by
  subst hl
  have hall := h.tail hy
  rw [List.filter_append, Sp.filter_all (l := xs)]
  · congr 1
    have hs : Ok ys := h.sub (List.sublist_append_right xs ys)
    clear h hx hy
    induction ys with
    | nil => rfl
    | cons y ys ih =>
      by_cases hq : (y.a == a) = true
      · rw [List.filter_cons_of_neg (by simpa using hq), List.dropWhile_cons_of_pos (by exact hq), ih (fun z hz => hall z (by simp [hz])) (hs.sub (List.sublist_cons_self _ _))]
      · rw [List.filter_cons_of_pos (by simpa using hq), List.dropWhile_cons_of_neg (by simpa using hq)]
        congr 1
        refine Sp.filter_all fun z hz => ?_
        have h1 := (List.pairwise_cons.1 hs.ord).1 z hz
        have h2 := Sp.lt_false.1 (hall y (by simp))
        have h3 : y.a ≠ a := by simpa using hq
        unfold Sp.rlt at h1
        simp only [Bool.not_eq_true', beq_eq_false_iff_ne]; omega
  · intro x hm
    have h1 := Sp.lt_iff.1 (hx x hm)
    have h2 := h.kind x (by simp [hm])
    simp only [Bool.not_eq_true', beq_eq_false_iff_ne]; omega

/-- those of an address are taken -/
theorem took {B s : Nat} {l : List Rec} {w0 w : World} (h : Own B s l w0 w) (a : Int) (hn : l.length ≤ 1000000) :
    Calls Try.prog 15 #[.pointer (some ⟨s, 0, none⟩), .int .u64 a] w
      (RetRowI 49 3 (l.filter (fun r => r.a == a)).length (cells3 (l.filter (fun r => r.a == a))) (Sp.fp s l) (fun w' => Own B s (l.filter (fun r => !(r.a == a))) w0 w') w) := by
  have hsp := Sp.split l a 0
  have hx := Sp.split_lt l a 0
  have hy := Sp.split_head l a 0
  generalize l.takeWhile (lt a 0) = xs at hsp hx
  generalize l.dropWhile (lt a 0) = ys at hsp hy
  have hpl := Sp.place_of (s := s) hsp hx hy
  have hz := h.ok.of hsp hx hy
  have hr := Ok.rest h.ok hsp hx hy
  rw [hz, hr]
  have hsub : ∀ x ∈ xs ++ ys.dropWhile (fun r => r.a == a), x ∈ l := by intro x hm; rw [← hr] at hm; exact (List.mem_filter.1 hm).1
  refine (Sp.take_any a w h.sp (xs := xs) (zs := ys.takeWhile (fun r => r.a == a)) (vs := ys.dropWhile (fun r => r.a == a)) (by rw [List.takeWhile_append_dropWhile]; exact hsp) hpl (by omega) (by rw [List.takeWhile_append_dropWhile])).mono ?_
  rintro e w' ⟨va, vc, he, ho, hw, hi⟩
  exact ⟨va, vc, he, ho, hw, hi, h.ok.sub (by rw [← hr]; exact List.filter_sublist), fun b hb => h.fp b (fp_sub hsub hb), h.fr.trans hw (fun b _ hb => h.fp b hb)⟩

theorem ofs {B s : Nat} {l : List Rec} {w0 w : World} (h : Own B s l w0 w) (a : Int) (hn : l.length ≤ 1000000) :
    Calls Try.prog 16 #[.pointer (some ⟨s, 0, none⟩), .int .u64 a] w (RetRow 49 3 (l.filter (fun r => r.a == a)).length (cells3 (l.filter (fun r => r.a == a))) w) := by
  have hsp := Sp.split l a 0
  have hx := Sp.split_lt l a 0
  have hy := Sp.split_head l a 0
  generalize l.takeWhile (lt a 0) = xs at hsp hx
  generalize l.dropWhile (lt a 0) = ys at hsp hy
  rw [h.ok.of hsp hx hy]
  exact Sp.of_any a w h.sp hsp (Sp.place_of (s := s) hsp hx hy) (by omega)

/-- what is left when those of the first addresses have been taken -/
def left (l : List Rec) (az : List Int) : List Rec := l.filter (fun r => !az.contains r.a)
theorem left_nil (l : List Rec) : left l [] = l := Sp.filter_all (fun _ _ => by simp)
theorem left_snoc (l : List Rec) (az : List Int) (a : Int) : (left l az).filter (fun r => !(r.a == a)) = left l (az ++ [a]) := by
  unfold left
  rw [List.filter_filter]
  congr 1; funext r
  by_cases he : r.a = a <;> simp [he]
theorem left_none (l : List Rec) (az : List Int) (a : Int) (h : a ∈ az) : (left l az).filter (fun r => r.a == a) = [] := by
  unfold left
  rw [List.filter_filter]
  refine Sp.filter_no fun r _ => ?_
  by_cases he : r.a = a
  · subst he; simp [h]
  · simp [he]
theorem left_all (l : List Rec) (M : Int) : betw (left l ((betw l 0 M).map (·.a))) 0 M = [] := by
  unfold left betw
  rw [List.filter_filter]
  refine Sp.filter_no fun r hr => ?_
  by_cases h : (decide (0 ≤ r.a) && decide (r.a < M)) = true
  · have : r.a ∈ (l.filter (fun r => decide (0 ≤ r.a) && decide (r.a < M))).map (·.a) := List.mem_map.2 ⟨r, List.mem_filter.2 ⟨hr, h⟩, rfl⟩
    have hc := List.contains_iff_mem.2 this
    simp only [hc, Bool.not_true, Bool.and_false]
  · simp only [Bool.not_eq_true] at h; simp [h]
theorem left_len (l : List Rec) (az : List Int) : (left l az).length ≤ l.length := List.length_filter_le _ _

/-- what is told of all but the last address -/
structure Told (M : Int) (l : List Rec) (m : List ((Int × Int) × Value)) (T : List Rec) : Prop where
  ord : T.Pairwise Sp.rlt
  get : ∀ (i : Nat) (q : Rec), T[i]? = some q → (mapGet m (q.a, q.k)).getD (.bool false) = .bool true
  cnt : ∀ D : List (Int × Int), D.Nodup → (∀ p ∈ D, p ∈ m.map (·.1)) → (∀ p ∈ m, p.1 ∈ D) → T.length + (D.filter (fun p => p.1 == M)).length = m.length
  gone : betw (left l (T.map (·.a))) 0 M = []
  len : T.length ≤ l.length

theorem told {M : Int} {l : List Rec} {m : List ((Int × Int) × Value)} (h : Met M l m) (ho : Ok l) (hn : (m.map (·.1)).Nodup) : Told M l m (betw l 0 M) :=
  ⟨ho.ord.sublist List.filter_sublist, fun _ q hq => h.get hn ⟨q, (List.mem_filter.1 (List.mem_of_getElem? hq)).1, rfl, rfl⟩, fun _ hD hs ha => met_count h ho hn hD hs ha, left_all l M, betw_len l 0 M⟩

theorem Told.pair {M : Int} {l T : List Rec} {m : List ((Int × Int) × Value)} (h : Told M l m T) {i : Nat} {p q : Rec} (hp : T[i]? = some p) (hq : T[i + 1]? = some q) : p.a < q.a ∨ (q.a = p.a ∧ p.k < q.k) := by
  have h1 := List.pairwise_iff_getElem.1 h.ord
  obtain ⟨l1, e1⟩ := List.getElem?_eq_some_iff.1 hp
  obtain ⟨l2, e2⟩ := List.getElem?_eq_some_iff.1 hq
  have h2 := h1 i (i + 1) l1 l2 (by omega)
  rw [e1, e2] at h2
  unfold Sp.rlt at h2
  omega

theorem nodup_le {α : Type} [DecidableEq α] {D K : List α} (hD : D.Nodup) (hK : K.Nodup) (hs : ∀ p ∈ D, p ∈ K) : D.length ≤ K.length := by
  have h : D.Perm (K.filter (fun x => decide (x ∈ D))) := by
    rw [List.perm_ext_iff_of_nodup hD (hK.sublist List.filter_sublist)]
    intro a
    simp only [List.mem_filter, decide_eq_true_eq]
    exact ⟨fun ha => ⟨hs a ha, ha⟩, fun ha => ha.2⟩
  rw [h.length_eq]
  exact List.length_filter_le _ _

theorem met_step {M : Int} {D : List (Int × Int)} {m : List ((Int × Int) × Value)} {a k : Int} {v : Value} (hn : (m.map (·.1)).Nodup) (hD : D.Nodup) (hs : ∀ p ∈ D, p ∈ m.map (·.1)) (hp : ((a, k), v) ∈ m) (hno : (a, k) ∉ D) :
    ((a, k) :: D).Nodup ∧ (∀ p ∈ (a, k) :: D, p ∈ m.map (·.1)) ∧ D.length + 1 ≤ m.length ∧ (((a, k) :: D).filter (fun p => p.1 == M)).length = (D.filter (fun p => p.1 == M)).length + (if a == M then 1 else 0) := by
  have h1 : ((a, k) :: D).Nodup := List.nodup_cons.2 ⟨hno, hD⟩
  have h2 : ∀ p ∈ (a, k) :: D, p ∈ m.map (·.1) := by
    intro p hp'
    rcases List.mem_cons.1 hp' with rfl | hp'
    · exact List.mem_map.2 ⟨_, hp, rfl⟩
    · exact hs p hp'
  refine ⟨h1, h2, ?_, ?_⟩
  · have := nodup_le h1 hn h2; simpa using this
  · by_cases he : a == M
    · rw [List.filter_cons_of_pos (by exact he), if_pos he]; rfl
    · rw [List.filter_cons_of_neg (by exact he), if_neg he]; rfl

/-- what Take leaves, and what Of -/
def Took4 (B s C g o zl : Nat) (a : Int) (va : Option Addr) (vc n : Nat) (T l' : List Rec) (w0 : World) (e : Ending) (w' : World) : Prop :=
  ∃ ra rc, e = .returned (.slice ra zl rc) ∧ w'.cell? ⟨g, o, none⟩ = some (.int .u64 a) ∧ Hid (Own B s l' w0 w' ∧ w'.ownsRow C 49 3 (.slice va n vc) n (cells3 T) ∧ ∀ b, Sp.fp s l' b → b < C)

theorem took4 {B s C g o : Nat} {va : Option Addr} {vc n : Nat} {T l : List Rec} {w0 w : World} {a : Int} (h : Own B s l w0 w) (hr : w.ownsRow C 49 3 (.slice va n vc) n (cells3 T)) (hc : ∀ b, Sp.fp s l b → b < C) (hg : w.cell? ⟨g, o, none⟩ = some (.int .u64 a)) (hgC : C ≤ g) (hn : l.length ≤ 1000000) :
    Calls Try.prog 15 #[.pointer (some ⟨s, 0, none⟩), .int .u64 a] w (Took4 B s C g o (l.filter (fun r => r.a == a)).length a va vc n T (l.filter (fun r => !(r.a == a))) w0) :=
  (took h a hn).mono fun e w' ⟨ra, rc, he, _, hw, hi⟩ =>
    ⟨ra, rc, he, by rw [World.cell?_of_block (w := w) (hw.same g (World.block_lt_of_cell? _ _ hg) (fun hf => by have := hc g hf; omega))]; exact hg, Lib.hid ⟨hi, ownsRow_fr hr hw hc, fun b hb => hc b (fp_sub (fun r hr => (List.mem_filter.1 hr).1) hb)⟩⟩

theorem of4 {B s C g o : Nat} {va : Option Addr} {vc n : Nat} {T l : List Rec} {w0 w : World} {a : Int} (h : Own B s l w0 w) (hr : w.ownsRow C 49 3 (.slice va n vc) n (cells3 T)) (hc : ∀ b, Sp.fp s l b → b < C) (hg : w.cell? ⟨g, o, none⟩ = some (.int .u64 a)) (hn : l.length ≤ 1000000) (hz : l.filter (fun r => r.a == a) = []) :
    Calls Try.prog 16 #[.pointer (some ⟨s, 0, none⟩), .int .u64 a] w (Took4 B s C g o 0 a va vc n T l w0) := by
  have := ofs h a hn
  rw [hz] at this
  exact this.mono fun e w' ⟨ra, rc, he, _, hw⟩ =>
    ⟨ra, rc, he, by rw [World.cell?_of_block (w := w) (hw.same g (World.block_lt_of_cell? _ _ hg) (fun hf => hf))]; exact hg, Lib.hid ⟨h.none hw, ownsRow_fr hr hw (fun _ => False.elim), hc⟩⟩

theorem row_at {w : World} {C T' n c : Nat} {a : Option Addr} {l : List Rec} (h : w.ownsRow C T' 3 (.slice a n c) n (cells3 l)) {i : Nat} {x : Rec} (hi : l[i]? = some x) :
    ∃ g o, a = some ⟨g, o, none⟩ ∧ C ≤ g ∧ w.cell? ⟨g, o + i * 3, none⟩ = some (.int .u64 x.a) := by
  obtain ⟨g, o, rfl, h0, _⟩ := Rf.rd_cells (ownsRow_rd h) hi
  refine ⟨g, o, rfl, ?_, h0⟩
  exact (h.lt g (by simp [Value.ownBlock])).1

theorem MapIs.drewN {κ : Type} {enc : κ → Value} {w : World} {b : Nat} {m : List (κ × Value)} (h : MapIs enc w b m) (n : Nat) : MapIs enc (w.drewN n) b m := h
end Go.Proofs.Ytheadhficajhmaa
