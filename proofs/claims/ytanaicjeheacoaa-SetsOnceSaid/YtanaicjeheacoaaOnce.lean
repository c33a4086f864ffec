/-
  SetsOnce: plain facts.
-/
import Derived.Test.YtanaicjeheacoaaMine
namespace Go.Proofs.Ytanaicjeheacoaa
open Go.RowKit Go.Deep

/-- the spans of the row zs, of which the first j have been put: all of one kind; the map has their bases -/
structure Met (zs : List Int) (j : Nat) (kd : Kd) (L : List It) (m : List (Int × Value)) : Prop where
  kd : ∀ x ∈ L, x.kd = kd
  id : ∀ x ∈ L, ∃ i, i < j ∧ x.id = (i : Int) + 1 ∧ zs[i]? = some x.base
  val : ∀ p ∈ m, p.2 = .bool true
  key : ∀ z, z ∈ m.map (·.1) ↔ ∃ x ∈ L, x.base = z

theorem Met.nil (zs : List Int) (kd : Kd) : Met zs 0 kd [] [] := ⟨by simp, by simp, by simp, by simp⟩

theorem Met.get {zs : List Int} {j : Nat} {kd : Kd} {L : List It} {m : List (Int × Value)} (h : Met zs j kd L m) (hn : (m.map (·.1)).Nodup) {z : Int} (hz : ∃ x ∈ L, x.base = z) : (mapGet m z).getD (.bool false) = .bool true := by
  obtain ⟨⟨p, v⟩, hp, hpe⟩ := List.mem_map.1 ((h.key z).2 hz)
  simp only at hpe; subst hpe
  have hv := h.val _ hp
  simp only at hv; subst hv
  rw [(mapGet_some hn).2 hp]; rfl

theorem Met.not {zs : List Int} {j : Nat} {kd : Kd} {L : List It} {m : List (Int × Value)} (h : Met zs j kd L m) {z : Int} (hz : ∀ x ∈ L, x.base ≠ z) : (mapGet m z).getD (.bool false) = .bool false := by
  have h1 : z ∉ m.map (·.1) := fun hm => by
    obtain ⟨x, h2, h3⟩ := (h.key z).1 hm
    exact hz x h2 h3
  rw [mapGet_none.2 h1]; rfl

theorem Met.skip {zs : List Int} {j : Nat} {kd : Kd} {L : List It} {m : List (Int × Value)} (h : Met zs j kd L m) : Met zs (j + 1) kd L m :=
  ⟨h.kd, fun x hx => by obtain ⟨i, h1, h2⟩ := h.id x hx; exact ⟨i, by omega, h2⟩, h.val, h.key⟩

theorem Met.add {zs : List Int} {j b : Nat} {kd : Kd} {L : List It} {m : List (Int × Value)} (h : Met zs j kd L m) (hn : (m.map (·.1)).Nodup) {z : Int} (hj : zs[j]? = some z) : Met zs (j + 1) kd (L ++ [⟨b, (j : Int) + 1, z, kd⟩]) (mapSet m z (.bool true)) := by
  refine ⟨fun x hx => ?_, fun x hx => ?_, fun p hp => ?_, fun y => ?_⟩
  · rcases List.mem_append.1 hx with hx | hx
    · exact h.kd x hx
    · simp only [List.mem_singleton] at hx; rw [hx]
  · rcases List.mem_append.1 hx with hx | hx
    · exact h.skip.id x hx
    · simp only [List.mem_singleton] at hx; subst hx; exact ⟨j, by omega, rfl, hj⟩
  · rcases (mem_mapSet hn p).1 hp with rfl | ⟨_, hp⟩
    · rfl
    · exact h.val p hp
  · constructor
    · intro hy
      obtain ⟨p, hp, rfl⟩ := List.mem_map.1 hy
      rcases (mem_mapSet hn p).1 hp with rfl | ⟨_, hp⟩
      · exact ⟨⟨b, (j : Int) + 1, z, kd⟩, by simp, rfl⟩
      · obtain ⟨x, hx, he⟩ := (h.key p.1).1 (List.mem_map_of_mem hp)
        exact ⟨x, by simp [hx], he⟩
    · rintro ⟨x, hx, rfl⟩
      by_cases he : x.base = z
      · exact List.mem_map.2 ⟨(z, .bool true), (mem_mapSet hn _).2 (.inl rfl), he.symm⟩
      · rcases List.mem_append.1 hx with hx | hx
        · obtain ⟨p, hp, hpe⟩ := List.mem_map.1 ((h.key x.base).2 ⟨x, hx, rfl⟩)
          exact List.mem_map.2 ⟨p, (mem_mapSet hn _).2 (.inr ⟨by rw [hpe]; exact he, hp⟩), hpe⟩
        · simp only [List.mem_singleton] at hx; subst hx; exact absurd rfl he

theorem Met.turned {zs : List Int} {j : Nat} {kd : Kd} {L : List It} {m : List (Int × Value)} (h : Met zs j kd L m) : Met zs j (turnk kd) (L.map It.turned) m := by
  refine ⟨fun x hx => ?_, fun x hx => ?_, h.val, fun z => ?_⟩
  · obtain ⟨y, hy, rfl⟩ := List.mem_map.1 hx
    rw [← h.kd y hy]; rfl
  · obtain ⟨y, hy, rfl⟩ := List.mem_map.1 hx
    exact h.id y hy
  · rw [h.key]
    constructor
    · rintro ⟨x, hx, he⟩; exact ⟨x.turned, List.mem_map_of_mem hx, he⟩
    · rintro ⟨x, hx, he⟩
      obtain ⟨y, hy, rfl⟩ := List.mem_map.1 hx
      exact ⟨y, hy, he⟩

theorem num_all {L : List It} {b : Bool} (h : ∀ x ∈ L, x.kd.2.2.2 = b) : num L b = L.length := by
  unfold num
  rw [List.filter_eq_self.2 (fun x hx => by simp [h x hx])]
theorem num_none {L : List It} {b : Bool} (h : ∀ x ∈ L, x.kd.2.2.2 = !b) : num L b = 0 := by
  unfold num
  rw [List.filter_eq_nil_iff.2 (fun x hx => by simp [h x hx])]; rfl

/-- without a span -/
def drop (L : List It) (x : It) : List It := L.filter (fun y => decide (y.id ≠ x.id))

theorem id_inj {L : List It} (h : (L.map (·.id)).Nodup) {x y : It} (hx : x ∈ L) (hy : y ∈ L) (e : x.id = y.id) : x = y := by
  obtain ⟨i, hi⟩ := List.mem_iff_getElem?.1 hx
  obtain ⟨j, hj⟩ := List.mem_iff_getElem?.1 hy
  have := nodup_inj h (i := i) (j := j) (a := y.id) (by rw [List.getElem?_map, hi]; simp [e]) (by rw [List.getElem?_map, hj]; rfl)
  subst this
  rw [hi] at hj; simpa using hj

theorem base_inj {L : List It} (h : (L.map (·.base)).Nodup) {x y : It} (hx : x ∈ L) (hy : y ∈ L) (e : x.base = y.base) : x = y := by
  obtain ⟨i, hi⟩ := List.mem_iff_getElem?.1 hx
  obtain ⟨j, hj⟩ := List.mem_iff_getElem?.1 hy
  have := nodup_inj h (i := i) (j := j) (a := y.base) (by rw [List.getElem?_map, hi]; simp [e]) (by rw [List.getElem?_map, hj]; rfl)
  subst this
  rw [hi] at hj; simpa using hj

theorem drop_len {L : List It} (h : (L.map (·.id)).Nodup) {x : It} (hx : x ∈ L) : (drop L x).length + 1 = L.length := by
  unfold drop
  induction L with
  | nil => simp at hx
  | cons y L ih =>
    rw [List.map_cons] at h
    have hn := List.nodup_cons.1 h
    by_cases he : y.id = x.id
    · rw [List.filter_cons_of_neg (by simpa using he), List.filter_eq_self.2 (fun z hz => ?_)]; rfl
      simp only [decide_eq_true_eq]
      intro e
      exact hn.1 (by rw [he, ← e]; exact List.mem_map_of_mem hz)
    · rw [List.filter_cons_of_pos (by simpa using he), List.length_cons, ih hn.2 (by
        rcases List.mem_cons.1 hx with rfl | hx
        · exact absurd rfl he
        · exact hx)]
      rfl

theorem Met.drop {zs : List Int} {j : Nat} {kd : Kd} {L : List It} {m : List (Int × Value)} (h : Met zs j kd L m) (hn : (m.map (·.1)).Nodup) (hI : (L.map (·.id)).Nodup) (hB : (L.map (·.base)).Nodup) {x : It} (hx : x ∈ L) : Met zs j kd (drop L x) (mapDel m x.base) := by
  have hsub : ∀ y ∈ Go.Proofs.Ytanaicjeheacoaa.drop L x, y ∈ L ∧ y.id ≠ x.id := fun y hy => by
    have := List.mem_filter.1 hy
    simpa using this
  refine ⟨fun y hy => h.kd y (hsub y hy).1, fun y hy => h.id y (hsub y hy).1, fun p hp => h.val p ((mem_mapDel hn p).1 hp).2, fun z => ?_⟩
  constructor
  · intro hz
    obtain ⟨p, hp, rfl⟩ := List.mem_map.1 hz
    obtain ⟨h1, h2⟩ := (mem_mapDel hn p).1 hp
    obtain ⟨y, hy, he⟩ := (h.key p.1).1 (List.mem_map_of_mem h2)
    refine ⟨y, List.mem_filter.2 ⟨hy, ?_⟩, he⟩
    simp only [decide_eq_true_eq]
    intro e
    have := id_inj hI hy hx e
    subst this
    exact h1 he.symm
  · rintro ⟨y, hy, rfl⟩
    obtain ⟨h1, h2⟩ := hsub y hy
    obtain ⟨p, hp, hpe⟩ := List.mem_map.1 ((h.key y.base).2 ⟨y, h1, rfl⟩)
    refine List.mem_map.2 ⟨p, (mem_mapDel hn p).2 ⟨?_, hp⟩, hpe⟩
    rw [hpe]
    intro e
    have := base_inj hB h1 hx e
    subst this
    exact h2 rfl

theorem zero_bool (w : World) : (zeroValue 4).run Try.prog w = .ok (.bool false) w := by
  have h : (Try.prog.info? 4).map (·.zero) = some (some (.bool false)) := by kernel_rfl
  cases hi : Try.prog.info? 4 with
  | none => rw [hi] at h; simp at h
  | some i =>
    rw [hi] at h
    simp only [Option.map_some, Option.some.injEq] at h
    simp [zeroValue, run_typeInfo w hi, h, Sem.run_bind, Result.andThen]

theorem run_met {w : World} {b : Nat} {m : List (Int × Value)} {x : Int} {v : Bool} (h : MapIs benc w b m) (hv : (mapGet m x).getD (.bool false) = .bool v) (W : World) (hW : W.heap = w.heap) :
    (Instr.lookup 46 (.map (some b)) (.int .u64 x) false).run Try.prog W = .ok (.bool v) W := by
  have h' : MapIs benc W b m := by unfold MapIs at h ⊢; rw [hW]; exact h
  have := run_map_lookup keyLaw_b Try.underlying46 h' x (.bool false) (zero_bool W) false
  simp only [hv, Bool.false_eq_true, if_false] at this
  exact this

/-- the sets, and the map beside them, made by the call itself -/
structure Om (B s mb : Nat) (L : List It) (m : List (Int × Value)) (w0 w : World) : Prop where
  mine : ∃ F, Mine w s L F ∧ ¬ F mb ∧ ∀ b, F b → B ≤ b
  map : MapIs benc w mb m
  mB : B ≤ mb
  fr : Fr (fun b => B ≤ b) w0 w
  le : B ≤ w.heap.size

theorem Om.quiet {B s mb : Nat} {L : List It} {m : List (Int × Value)} {w0 w w' : World} (h : Om B s mb L m w0 w) (hf : Fr (fun _ => False) w w') : Om B s mb L m w0 w' := by
  obtain ⟨F, h1, h2, h3⟩ := h.mine
  exact ⟨⟨F, h1.quiet hf, h2, h3⟩, h.map.fr hf (fun x => x), h.mB, h.fr.trans hf (fun _ _ => False.elim), Nat.le_trans h.le hf.size⟩

theorem Om.next {B s mb : Nat} {L L' : List It} {m : List (Int × Value)} {w0 w w' : World} (h : Om B s mb L m w0 w) {F : Nat → Prop} (h2 : ¬ F mb) (h3 : ∀ b, F b → B ≤ b) (hn : Now w s L' F w') : Om B s mb L' m w0 w' := by
  obtain ⟨F', k1, k2⟩ := hn
  have hlt := h.map.lt
  refine ⟨⟨F', k1, fun hb => (k2.new mb hb).elim h2 (fun h => by omega), fun b hb => (k2.new b hb).elim (h3 b) (fun h' => Nat.le_trans h.le h')⟩, h.map.fr k2.fr h2, h.mB, h.fr.trans k2.fr (fun b _ hb => h3 b hb), Nat.le_trans h.le k2.fr.size⟩

theorem Om.map_turns {B s mb : Nat} {L : List It} {m m' : List (Int × Value)} {w0 w w' : World} (h : Om B s mb L m w0 w) (hm : MapIs benc w' mb m') (hf : Fr (fun b => b = mb) w w') : Om B s mb L m' w0 w' := by
  obtain ⟨F, h1, h2, h3⟩ := h.mine
  exact ⟨⟨F, h1.keep hf (fun b hb he => h2 (he ▸ hb)), h2, h3⟩, hm, h.mB, h.fr.trans hf (fun b _ he => by rw [he]; exact h.mB), Nat.le_trans h.le hf.size⟩

theorem Om.done {s mb : Nat} {L : List It} {m : List (Int × Value)} {w w' : World} (h : Om w.heap.size s mb L m w w') : Fr (fun _ => False) w w' := h.fr.mono (fun b hb h => by omega)

theorem Om.ids {B s mb : Nat} {L : List It} {m : List (Int × Value)} {w0 w : World} (h : Om B s mb L m w0 w) : (L.map (·.id)).Nodup := by obtain ⟨F, h1, _⟩ := h.mine; exact h1.is.ids
theorem Om.bases {B s mb : Nat} {L : List It} {m : List (Int × Value)} {w0 w : World} (h : Om B s mb L m w0 w) : (L.map (·.base)).Nodup := by obtain ⟨F, h1, _⟩ := h.mine; exact h1.is.bases

theorem om_put {B s mb : Nat} {L : List It} {m : List (Int × Value)} {w0 w : World} (h : Om B s mb L m w0 w) (id base cls : Int) (np fu sw : Bool) (hL : L.length ≤ 1000000) :
    Calls Try.prog 8 #[.pointer (some ⟨s, 0, none⟩), .int .i64 id, .int .u64 base, .int .i64 cls, .bool np, .bool fu, .bool sw] w fun e w' =>
      ∃ c L', e = .returned (.int .i64 c) ∧ Hid (Om B s mb L' m w0 w' ∧ Puts L id base cls np fu sw c L') := by
  obtain ⟨F, h1, h2, h3⟩ := h.mine
  exact (put_m h1 id base cls np fu sw hL).mono fun e w' ⟨c, L', he, hh⟩ => ⟨c, L', he, Lib.hid ⟨h.next h2 h3 hh.out.1, hh.out.2⟩⟩
theorem om_take {B s mb : Nat} {L : List It} {m : List (Int × Value)} {w0 w : World} (h : Om B s mb L m w0 w) (k1 : Int) (k2 k3 k4 : Bool) (hL : L.length ≤ 1000000) :
    Calls Try.prog 9 #[.pointer (some ⟨s, 0, none⟩), .int .i64 k1, .bool k2, .bool k3, .bool k4] w fun e w' =>
      ∃ id ok L', e = .returned (.tuple #[.int .i64 id, .bool ok]) ∧ Hid (Om B s mb L' m w0 w' ∧ Took L (k1, k2, k3, k4) id ok L') := by
  obtain ⟨F, h1, h2, h3⟩ := h.mine
  exact (take_m h1 k1 k2 k3 k4 hL).mono fun e w' ⟨id, ok, L', he, hh⟩ => ⟨id, ok, L', he, Lib.hid ⟨h.next h2 h3 hh.out.1, hh.out.2⟩⟩
theorem om_flip {B s mb : Nat} {L : List It} {m : List (Int × Value)} {w0 w : World} (h : Om B s mb L m w0 w) (hL : L.length ≤ 1000000) :
    Calls Try.prog 16 #[.pointer (some ⟨s, 0, none⟩)] w fun e w' => ∃ c L', e = .returned (.int .i64 c) ∧ Hid (Om B s mb L' m w0 w' ∧ Flips L c L') := by
  obtain ⟨F, h1, h2, h3⟩ := h.mine
  exact (flip_m h1 hL).mono fun e w' ⟨c, L', he, hh⟩ => ⟨c, L', he, Lib.hid ⟨h.next h2 h3 hh.out.1, hh.out.2⟩⟩
theorem om_remove {B s mb : Nat} {L : List It} {m : List (Int × Value)} {w0 w : World} (h : Om B s mb L m w0 w) (id : Int) (hL : L.length ≤ 1000000) (hn : ∀ x ∈ L, x.id ≠ id) :
    Calls Try.prog 11 #[.pointer (some ⟨s, 0, none⟩), .int .i64 id] w fun e w' => e = .returned (.int .i64 35) ∧ Hid (Om B s mb L m w0 w') := by
  obtain ⟨F, h1, h2, h3⟩ := h.mine
  refine (remove_m h1 id hL).mono fun e w' ⟨c, L', he, hh⟩ => ?_
  rcases hh.out.2 with ⟨rfl, rfl, _⟩ | ⟨_, ⟨x, hx, hxi⟩, _⟩
  · exact ⟨he, Lib.hid (h.next h2 h3 hh.out.1)⟩
  · exact absurd hxi (hn x hx)
theorem om_count {B s mb : Nat} {L : List It} {m : List (Int × Value)} {w0 w : World} (h : Om B s mb L m w0 w) (b : Bool) (hL : L.length ≤ 1000000) :
    Calls Try.prog 14 #[.pointer (some ⟨s, 0, none⟩), .bool b] w fun e w' => e = .returned (.int .i64 (num L b)) ∧ Hid (Om B s mb L m w0 w') := by
  obtain ⟨F, h1, h2, h3⟩ := h.mine
  exact (count_m h1 b hL).mono fun e w' ⟨he, hf⟩ => ⟨he, Lib.hid (h.quiet hf.out)⟩
theorem om_least {B s mb : Nat} {L : List It} {m : List (Int × Value)} {w0 w : World} (h : Om B s mb L m w0 w) (hL : L.length ≤ 1000000) :
    Calls Try.prog 10 #[.pointer (some ⟨s, 0, none⟩)] w fun e w' => ∃ id ok, e = .returned (.tuple #[.int .i64 id, .bool ok]) ∧ Hid (Om B s mb L m w0 w' ∧ Leasts L id ok) := by
  obtain ⟨F, h1, h2, h3⟩ := h.mine
  exact (least_m h1 hL).mono fun e w' ⟨id, ok, he, hh⟩ => ⟨id, ok, he, Lib.hid ⟨h.quiet hh.out.1, hh.out.2⟩⟩
end Go.Proofs.Ytanaicjeheacoaa
