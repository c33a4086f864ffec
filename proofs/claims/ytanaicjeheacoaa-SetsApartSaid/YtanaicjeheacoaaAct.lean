/-
  'act': the same is done to the sets and to the reference.
-/
import Derived.Test.YtanaicjeheacoaaRef4
import Derived.Deep.RegionHeld3
namespace Go.Proofs.Ytanaicjeheacoaa
open Go.RowKit Go.Deep

/-- the sets and the reference hold the same spans, in blocks apart, which F names -/
structure Duo (w : World) (s r : Nat) (L : List It) (F : Nat → Prop) : Prop where
  both : ∃ F1 F2, Mine w s L F1 ∧ Rf.Mine w r L F2 ∧ (∀ b, F1 b → ¬ F2 b) ∧ ∀ b, F b ↔ F1 b ∨ F2 b

theorem Duo.lt {w : World} {s r : Nat} {L : List It} {F : Nat → Prop} (h : Duo w s r L F) : ∀ b, F b → b < w.heap.size := fun b hb => by
  obtain ⟨F1, F2, h1, h2, _, h4⟩ := h.both
  exact ((h4 b).1 hb).elim (h1.lt b) (h2.lt b)

theorem Duo.keep {w w' : World} {s r : Nat} {L : List It} {F S : Nat → Prop} (h : Duo w s r L F) (hf : Fr S w w') (hS : ∀ b, F b → ¬ S b) : Duo w' s r L F := by
  obtain ⟨F1, F2, h1, h2, h3, h4⟩ := h.both
  exact ⟨F1, F2, h1.keep hf (fun b hb => hS b ((h4 b).2 (.inl hb))), h2.keep hf (fun b hb => hS b ((h4 b).2 (.inr hb))), h3, h4⟩
theorem Duo.quiet {w w' : World} {s r : Nat} {L : List It} {F : Nat → Prop} (h : Duo w s r L F) (hf : Fr (fun _ => False) w w') : Duo w' s r L F := h.keep hf (fun _ _ x => x)

theorem Duo.nd {w : World} {s r : Nat} {L : List It} {F : Nat → Prop} (h : Duo w s r L F) : (L.map (·.id)).Nodup ∧ (L.map (·.base)).Nodup := by
  obtain ⟨F1, F2, h1, _⟩ := h.both
  exact ⟨h1.is.ids, h1.is.bases⟩

/-- the sets have been turned, the reference not yet -/
structure Half (w W : World) (s r : Nat) (L L1 : List It) (F : Nat → Prop) : Prop where
  ex : ∃ F1 F2, Mine W s L1 F1 ∧ Rf.Mine W r L F2 ∧ (∀ b, F1 b → ¬ F2 b) ∧ (∀ b, F1 b → F b ∨ w.heap.size ≤ b) ∧ (∀ b, F2 b → F b ∧ b < w.heap.size)
  fr : Fr F w W

/-- both have been turned -/
def Done (w W : World) (s r : Nat) (L' : List It) (F : Nat → Prop) : Prop := ∃ F', Duo W s r L' F' ∧ Step F F' w W

theorem Duo.half {w W : World} {s r : Nat} {L : List It} {F : Nat → Prop} (h : Duo w s r L F) (hf : Fr (fun _ => False) w W) :
    ∃ F1, Mine W s L F1 ∧ (∀ b, F1 b → b < w.heap.size) ∧ ∀ w1 L1, Now W s L1 F1 w1 → Half w w1 s r L L1 F ∧ Fr F1 W w1 := by
  obtain ⟨F1, F2, h1, h2, h3, h4⟩ := h.both
  refine ⟨F1, h1.quiet hf, h1.lt, fun w1 L1 hn => ?_⟩
  obtain ⟨F1', k1, k2⟩ := hn
  refine ⟨⟨⟨F1', F2, k1, (h2.quiet hf).keep k2.fr (fun b hb hb1 => h3 b hb1 hb), fun b hb hb2 => ?_, fun b hb => ?_, fun b hb => ⟨(h4 b).2 (.inr hb), h2.lt b hb⟩⟩, (hf.mono (fun _ _ => False.elim)).trans k2.fr (fun b _ hb => (h4 b).2 (.inl hb))⟩, k2.fr⟩
  · rcases k2.new b hb with hb1 | hb1
    · exact h3 b hb1 hb2
    · have := h2.lt b hb2; have := hf.size; omega
  · rcases k2.new b hb with hb1 | hb1
    · exact .inl ((h4 b).2 (.inl hb1))
    · exact .inr (Nat.le_trans hf.size hb1)

theorem Half.quiet {w W W' : World} {s r : Nat} {L L1 : List It} {F : Nat → Prop} (h : Half w W s r L L1 F) (hf : Fr (fun _ => False) W W') : Half w W' s r L L1 F := by
  obtain ⟨F1, F2, h1, h2, h3⟩ := h.ex
  exact ⟨⟨F1, F2, h1.quiet hf, h2.quiet hf, h3⟩, h.fr.trans hf (fun _ _ => False.elim)⟩

theorem Half.done {w W : World} {s r : Nat} {L L1 : List It} {F : Nat → Prop} (h : Half w W s r L L1 F) :
    ∃ F2, Rf.Mine W r L F2 ∧ (∀ b, F2 b → b < w.heap.size) ∧ ∀ w1, Rf.Now W r L1 F2 w1 → Done w w1 s r L1 F ∧ Fr F2 W w1 := by
  obtain ⟨F1, F2, h1, h2, h3, h4, h5⟩ := h.ex
  refine ⟨F2, h2, fun b hb => (h5 b hb).2, fun w1 hn => ?_⟩
  obtain ⟨F2', k1, k2⟩ := hn
  refine ⟨⟨fun b => F1 b ∨ F2' b, ⟨F1, F2', h1.keep k2.fr (fun b hb hb2 => h3 b hb hb2), k1, fun b hb hb2 => ?_, fun b => Iff.rfl⟩, h.fr.trans k2.fr (fun b _ hb => (h5 b hb).1), fun b hb => ?_⟩, k2.fr⟩
  · rcases k2.new b hb2 with hb1 | hb1
    · exact h3 b hb hb1
    · have := h1.lt b hb; omega
  · rcases hb with hb | hb
    · exact h4 b hb
    · rcases k2.new b hb with hb1 | hb1
      · exact .inl (h5 b hb1).1
      · exact .inr (Nat.le_trans h.fr.size hb1)

/-- what an act leaves -/
def ActPost (s r : Nat) (L : List It) (F : Nat → Prop) (w : World) (e : Ending) (w' : World) : Prop := e = .returned (.bool true) ∧ ∃ L', Done w w' s r L' F ∧ L'.length ≤ L.length + 1

/-- the box of the act -/
structure Box (N : Nat) (id cls : Int) (ba : Int) (np fu sw : Bool) (w : World) : Prop where
  c1 : w.cell? ⟨N, 1, none⟩ = some (.int .i64 id)
  c2 : w.cell? ⟨N, 2, none⟩ = some (.int .i64 cls)
  c3 : w.cell? ⟨N, 3, none⟩ = some (.int .u64 ba)
  c4 : w.cell? ⟨N, 4, none⟩ = some (.bool np)
  c5 : w.cell? ⟨N, 5, none⟩ = some (.bool fu)
  c6 : w.cell? ⟨N, 6, none⟩ = some (.bool sw)

theorem Box.fr {S : Nat → Prop} {N : Nat} {id cls ba : Int} {np fu sw : Bool} {w w' : World} (h : Box N id cls ba np fu sw w) (hf : Fr S w w') (hS : ¬ S N) : Box N id cls ba np fu sw w' :=
  ⟨cell_through hf h.c1 hS, cell_through hf h.c2 hS, cell_through hf h.c3 hS, cell_through hf h.c4 hS, cell_through hf h.c5 hS, cell_through hf h.c6 hS⟩

theorem box_new (w : World) (x id cls ba : Int) (np fu sw : Bool) : Box w.heap.size id cls ba np fu sw (w.alloc (.cells #[.int .i64 x, .int .i64 id, .int .i64 cls, .int .u64 ba, .bool np, .bool fu, .bool sw] 40)) := by
  have h : (w.alloc (.cells #[.int .i64 x, .int .i64 id, .int .i64 cls, .int .u64 ba, .bool np, .bool fu, .bool sw] 40)).heap[w.heap.size]? = some (.cells #[.int .i64 x, .int .i64 id, .int .i64 cls, .int .u64 ba, .bool np, .bool fu, .bool sw] 40 (0, 0)) := by rw [heap_alloc, if_pos rfl]
  exact ⟨cell_blk h 1, cell_blk h 2, cell_blk h 3, cell_blk h 4, cell_blk h 5, cell_blk h 6⟩

/-- a call that answers v, leaves the box, and of which P holds -/
def Did (v : Value) (N : Nat) (id cls ba : Int) (np fu sw : Bool) (P : World → Prop) (e : Ending) (w' : World) : Prop := e = .returned v ∧ Box N id cls ba np fu sw w' ∧ Hid (P w')

theorem eql_errno (x : Int) (W : World) : (binOp .eql 24 (.int .i64 x) (.int .i64 x)).run Try.prog W = .ok (.bool true) W := by
  simp [binOp, Op.intCmp]

theorem puts_v (L : List It) (id base cls : Int) (np fu sw : Bool) : ∃ v, ∀ c L', Puts L id base cls np fu sw c L' → c = v := by
  by_cases h1 : id < 1 ∨ cls < 0 ∨ 68 ≤ cls
  · refine ⟨1, fun c L' h => ?_⟩
    rcases h with ⟨_, h, _⟩ | ⟨h, _⟩ | ⟨h, _⟩
    · exact h
    · omega
    · omega
  · by_cases h2 : ∃ x ∈ L, x.id = id ∨ x.base = base
    · refine ⟨34, fun c L' h => ?_⟩
      rcases h with ⟨h, _⟩ | ⟨_, _, h, _⟩ | ⟨_, h3, h4, _⟩
      · exact absurd h h1
      · exact h
      · obtain ⟨x, hx, h⟩ := h2
        exact absurd h (fun h => h.elim (h3 x hx) (h4 x hx))
    · refine ⟨0, fun c L' h => ?_⟩
      rcases h with ⟨h, _⟩ | ⟨_, h, _⟩ | ⟨_, _, _, h, _⟩
      · exact absurd h h1
      · exact absurd h h2
      · exact h

theorem rputs {L L1 : List It} {id base cls v : Int} {np fu sw : Bool} (h : Puts L id base cls np fu sw v L1) : L1.length ≤ L.length + 1 ∧ ∃ b, ∀ c L', Rf.RPuts L id base cls np fu sw b c L' → c = v ∧ L' = L1 := by
  rcases h with ⟨h1, rfl, rfl⟩ | ⟨h1, h2, rfl, rfl⟩ | ⟨h1, h2, h3, rfl, b, rfl⟩
  · refine ⟨by omega, 0, fun c L' h => ?_⟩
    rcases h with ⟨_, h, h'⟩ | ⟨h, _⟩ | ⟨h, _⟩
    · exact ⟨h, h'⟩
    · omega
    · omega
  · refine ⟨by omega, 0, fun c L' h => ?_⟩
    rcases h with ⟨h, _⟩ | ⟨_, _, h, h'⟩ | ⟨_, h3, h4, _⟩
    · omega
    · exact ⟨h, h'⟩
    · obtain ⟨x, hx, h⟩ := h2
      exact absurd h (fun h => h.elim (h3 x hx) (h4 x hx))
  · refine ⟨by simp, b, fun c L' h => ?_⟩
    rcases h with ⟨h, _⟩ | ⟨_, ⟨x, hx, h⟩, _⟩ | ⟨_, _, _, h, h'⟩
    · omega
    · exact absurd h (fun h => h.elim (h2 x hx) (h3 x hx))
    · exact ⟨h, h'⟩

theorem removes_v (L : List It) (id : Int) : ∃ v L1, L1.length ≤ L.length + 1 ∧ ∀ c L', Removes L id c L' → c = v ∧ L' = L1 := by
  by_cases h : ∃ x ∈ L, x.id = id
  · refine ⟨0, L.filter (fun y => decide (y.id ≠ id)), Nat.le_succ_of_le (List.length_filter_le _ _), fun c L' hr => ?_⟩
    rcases hr with ⟨_, _, hn⟩ | ⟨h1, _, h2⟩
    · obtain ⟨x, hx, he⟩ := h; exact absurd he (hn x hx)
    · exact ⟨h1, h2⟩
  · refine ⟨35, L, Nat.le_succ _, fun c L' hr => ?_⟩
    rcases hr with ⟨h1, h2, _⟩ | ⟨_, hx, _⟩
    · exact ⟨h1, h2⟩
    · exact absurd hx h

theorem flips_v (L : List It) : ∃ v L1, L1.length ≤ L.length + 1 ∧ ∀ c L', Flips L c L' → c = v ∧ L' = L1 := by
  by_cases h : num L false = 0
  · refine ⟨0, L.map It.turned, by simp, fun c L' hr => ?_⟩
    rcases hr with ⟨h0, _⟩ | ⟨_, h1, h2⟩
    · omega
    · exact ⟨h1, h2⟩
  · refine ⟨33, L, Nat.le_succ _, fun c L' hr => ?_⟩
    rcases hr with ⟨_, h1, h2⟩ | ⟨h0, _⟩
    · exact ⟨h1, h2⟩
    · exact absurd h0 h

theorem base_eq {L : List It} (h : (L.map (·.base)).Nodup) {x y : It} (hx : x ∈ L) (hy : y ∈ L) (e : x.base = y.base) : x = y := by
  obtain ⟨i, hi⟩ := List.mem_iff_getElem?.1 hx
  obtain ⟨j, hj⟩ := List.mem_iff_getElem?.1 hy
  have := nodup_inj h (i := i) (j := j) (a := y.base) (by rw [List.getElem?_map, hi]; simp [e]) (by rw [List.getElem?_map, hj]; rfl)
  subst this
  rw [hi] at hj; simpa using hj

theorem took_v {L : List It} (hB : (L.map (·.base)).Nodup) (k : Kd) : ∃ id ok L1, L1.length ≤ L.length + 1 ∧ ∀ i o L', Took L k i o L' → i = id ∧ o = ok ∧ L' = L1 := by
  by_cases h : ∃ i o L', Took L k i o L'
  · obtain ⟨i, o, L', h⟩ := h
    refine ⟨i, o, L', ?_, fun i2 o2 L2 h2 => ?_⟩
    · rcases h with ⟨_, _, rfl, _⟩ | ⟨_, x, _, _, _, _, rfl⟩
      · omega
      · exact Nat.le_succ_of_le (List.length_filter_le _ _)
    · rcases h with ⟨rfl, rfl, rfl, hn⟩ | ⟨rfl, x, hx, hxk, rfl, hxm, rfl⟩ <;> rcases h2 with ⟨rfl, rfl, rfl, hn2⟩ | ⟨rfl, y, hy, hyk, rfl, hym, rfl⟩
      · exact ⟨rfl, rfl, rfl⟩
      · exact absurd hyk (hn y hy)
      · exact absurd hxk (hn2 x hx)
      · have := base_eq hB hx hy (Int.le_antisymm (hxm y hy hyk) (hym x hx hxk))
        subst this
        exact ⟨rfl, rfl, rfl⟩
  · exact ⟨0, false, [], by simp, fun i o L' h' => absurd ⟨i, o, L', h'⟩ h⟩

theorem leasts_v {L : List It} (hB : (L.map (·.base)).Nodup) : ∃ id ok, ∀ i o, Leasts L i o → i = id ∧ o = ok := by
  by_cases h : ∃ i o, Leasts L i o
  · obtain ⟨i, o, h⟩ := h
    refine ⟨i, o, fun i2 o2 h2 => ?_⟩
    rcases h with ⟨rfl, rfl, hn⟩ | ⟨rfl, x, hx, rfl, hxs, hxm⟩ <;> rcases h2 with ⟨rfl, rfl, hn2⟩ | ⟨rfl, y, hy, rfl, hys, hym⟩
    · exact ⟨rfl, rfl⟩
    · have := hn y hy; rw [hys] at this; simp at this
    · have := hn2 x hx; rw [hxs] at this; simp at this
    · have := base_eq hB hx hy (Int.le_antisymm (hxm y hy hys) (hym x hx hxs))
      subst this
      exact ⟨rfl, rfl⟩
  · exact ⟨0, false, fun i o h' => absurd ⟨i, o, h'⟩ h⟩

/-- two calls in turn: the sets answer v, then the reference -/
def Two (f g : FuncId) (xs ys : Array Value) (v : Value) (w : World) (s r : Nat) (L : List It) (F : Nat → Prop) (id cls ba : Int) (np fu sw : Bool) : Prop :=
  ∃ P : World → Prop, (∀ W, Fr (fun _ => False) w W → Box w.heap.size id cls ba np fu sw W → Hid (Calls Try.prog f xs W (Did v w.heap.size id cls ba np fu sw P))) ∧
    (∀ W, P W → Box w.heap.size id cls ba np fu sw W → Hid (Calls Try.prog g ys W (Did v w.heap.size id cls ba np fu sw (ActPost s r L F w (.returned (.bool true))))))

theorem two_put {w : World} {s r : Nat} {L : List It} {F : Nat → Prop} (h : Duo w s r L F) (hn : L.length ≤ 1000000) (id cls ba : Int) (np fu sw : Bool) :
    ∃ v : Int, Two 8 18 #[.pointer (some ⟨s, 0, none⟩), .int .i64 id, .int .u64 ba, .int .i64 cls, .bool np, .bool fu, .bool sw]
      #[.pointer (some ⟨r, 0, none⟩), .agg #[.int .i64 id, .int .u64 ba, .int .i64 cls, .bool np, .bool fu, .bool sw]] (.int .i64 v) w s r L F id cls ba np fu sw := by
  obtain ⟨v, hv⟩ := puts_v L id ba cls np fu sw
  refine ⟨v, fun W => ∃ L1, Half w W s r L L1 F ∧ Puts L id ba cls np fu sw v L1, fun W hf hb => Lib.hid ?_, fun W hP hb => Lib.hid ?_⟩
  · obtain ⟨F1, k1, k2, k3⟩ := h.half hf
    refine (put_m k1 id ba cls np fu sw hn).mono fun e w' ⟨c, L', he, hh⟩ => ?_
    obtain ⟨g1, g2⟩ := k3 w' L' hh.out.1
    obtain rfl := hv c L' hh.out.2
    exact ⟨he, hb.fr g2 (fun hx => by have := k2 _ hx; omega), Lib.hid ⟨L', g1, hh.out.2⟩⟩
  · obtain ⟨L1, hh, hp⟩ := hP
    obtain ⟨hlen, b, hb2⟩ := rputs hp
    obtain ⟨F2, k1, k2, k3⟩ := hh.done
    refine (Rf.put_any b W k1 id ba cls np fu sw hn).mono fun e w' ⟨c, L', he, hr⟩ => ?_
    obtain ⟨rfl, rfl⟩ := hb2 c L' hr.out.2
    obtain ⟨g1, g2⟩ := k3 w' hr.out.1
    exact ⟨he, hb.fr g2 (fun hx => by have := k2 _ hx; omega), Lib.hid ⟨rfl, L', g1, hlen⟩⟩

theorem two_remove {w : World} {s r : Nat} {L : List It} {F : Nat → Prop} (h : Duo w s r L F) (hn : L.length ≤ 1000000) (id cls ba : Int) (np fu sw : Bool) :
    ∃ v : Int, Two 11 20 #[.pointer (some ⟨s, 0, none⟩), .int .i64 id] #[.pointer (some ⟨r, 0, none⟩), .int .i64 id] (.int .i64 v) w s r L F id cls ba np fu sw := by
  obtain ⟨v, L1, hlen, hv⟩ := removes_v L id
  refine ⟨v, fun W => Half w W s r L L1 F, fun W hf hb => Lib.hid ?_, fun W hh hb => Lib.hid ?_⟩
  · obtain ⟨F1, k1, k2, k3⟩ := h.half hf
    refine (remove_m k1 id hn).mono fun e w' ⟨c, L', he, hh⟩ => ?_
    obtain ⟨g1, g2⟩ := k3 w' L' hh.out.1
    obtain ⟨rfl, rfl⟩ := hv c L' hh.out.2
    exact ⟨he, hb.fr g2 (fun hx => by have := k2 _ hx; omega), Lib.hid g1⟩
  · obtain ⟨F2, k1, k2, k3⟩ := hh.done
    refine (Rf.remove_any id W k1 hn h.nd.1).mono fun e w' ⟨c, L', he, hr⟩ => ?_
    obtain ⟨rfl, rfl⟩ := hv c L' hr.out.2
    obtain ⟨g1, g2⟩ := k3 w' hr.out.1
    exact ⟨he, hb.fr g2 (fun hx => by have := k2 _ hx; omega), Lib.hid ⟨rfl, L', g1, hlen⟩⟩

theorem two_flip {w : World} {s r : Nat} {L : List It} {F : Nat → Prop} (h : Duo w s r L F) (hn : L.length ≤ 1000000) (id cls ba : Int) (np fu sw : Bool) :
    ∃ v : Int, Two 16 22 #[.pointer (some ⟨s, 0, none⟩)] #[.pointer (some ⟨r, 0, none⟩)] (.int .i64 v) w s r L F id cls ba np fu sw := by
  obtain ⟨v, L1, hlen, hv⟩ := flips_v L
  refine ⟨v, fun W => Half w W s r L L1 F, fun W hf hb => Lib.hid ?_, fun W hh hb => Lib.hid ?_⟩
  · obtain ⟨F1, k1, k2, k3⟩ := h.half hf
    refine (flip_m k1 hn).mono fun e w' ⟨c, L', he, hh⟩ => ?_
    obtain ⟨g1, g2⟩ := k3 w' L' hh.out.1
    obtain ⟨rfl, rfl⟩ := hv c L' hh.out.2
    exact ⟨he, hb.fr g2 (fun hx => by have := k2 _ hx; omega), Lib.hid g1⟩
  · obtain ⟨F2, k1, k2, k3⟩ := hh.done
    refine (Rf.flip_any W k1 hn).mono fun e w' ⟨c, L', he, hr⟩ => ?_
    obtain ⟨rfl, rfl⟩ := hv c L' hr.out.2
    obtain ⟨g1, g2⟩ := k3 w' hr.out.1
    exact ⟨he, hb.fr g2 (fun hx => by have := k2 _ hx; omega), Lib.hid ⟨rfl, L', g1, hlen⟩⟩

theorem two_take {w : World} {s r : Nat} {L : List It} {F : Nat → Prop} (h : Duo w s r L F) (hn : L.length ≤ 1000000) (id cls ba : Int) (np fu sw : Bool) :
    ∃ (v : Int) (ok : Bool), Two 9 19 #[.pointer (some ⟨s, 0, none⟩), .int .i64 cls, .bool np, .bool fu, .bool sw] #[.pointer (some ⟨r, 0, none⟩), .int .i64 cls, .bool np, .bool fu, .bool sw] (.tuple #[.int .i64 v, .bool ok]) w s r L F id cls ba np fu sw := by
  obtain ⟨v, ok, L1, hlen, hv⟩ := took_v h.nd.2 (cls, np, fu, sw)
  refine ⟨v, ok, fun W => Half w W s r L L1 F, fun W hf hb => Lib.hid ?_, fun W hh hb => Lib.hid ?_⟩
  · obtain ⟨F1, k1, k2, k3⟩ := h.half hf
    refine (take_m k1 cls np fu sw hn).mono fun e w' ⟨i, o, L', he, hh⟩ => ?_
    obtain ⟨g1, g2⟩ := k3 w' L' hh.out.1
    obtain ⟨rfl, rfl, rfl⟩ := hv i o L' hh.out.2
    exact ⟨he, hb.fr g2 (fun hx => by have := k2 _ hx; omega), Lib.hid g1⟩
  · obtain ⟨F2, k1, k2, k3⟩ := hh.done
    refine (Rf.take_any cls np fu sw W k1 hn h.nd.1).mono fun e w' ⟨i, o, L', he, hr⟩ => ?_
    obtain ⟨rfl, rfl, rfl⟩ := hv i o L' hr.out.2
    obtain ⟨g1, g2⟩ := k3 w' hr.out.1
    exact ⟨he, hb.fr g2 (fun hx => by have := k2 _ hx; omega), Lib.hid ⟨rfl, L', g1, hlen⟩⟩

theorem Duo.done {w W : World} {s r : Nat} {L : List It} {F : Nat → Prop} (h : Duo w s r L F) (hf : Fr (fun _ => False) w W) : ActPost s r L F w (.returned (.bool true)) W :=
  ⟨rfl, L, ⟨F, h.quiet hf, Step.none hf⟩, Nat.le_succ _⟩

theorem two_least {w : World} {s r : Nat} {L : List It} {F : Nat → Prop} (h : Duo w s r L F) (hn : L.length ≤ 1000000) (id cls ba : Int) (np fu sw : Bool) :
    ∃ (v : Int) (ok : Bool), Two 10 21 #[.pointer (some ⟨s, 0, none⟩)] #[.pointer (some ⟨r, 0, none⟩)] (.tuple #[.int .i64 v, .bool ok]) w s r L F id cls ba np fu sw := by
  obtain ⟨v, ok, hv⟩ := leasts_v h.nd.2
  refine ⟨v, ok, fun W => Fr (fun _ => False) w W, fun W hf hb => Lib.hid ?_, fun W hf hb => Lib.hid ?_⟩
  · obtain ⟨F1, F2, k1, k2, _⟩ := (h.quiet hf).both
    refine (least_m k1 hn).mono fun e w' ⟨i, o, he, hh⟩ => ?_
    obtain ⟨rfl, rfl⟩ := hv i o hh.out.2
    exact ⟨he, hb.fr hh.out.1 (fun x => x), Lib.hid (hf.trans hh.out.1 (fun _ _ x => x))⟩
  · obtain ⟨F1, F2, k1, k2, _⟩ := (h.quiet hf).both
    refine (Rf.least_any W k2 hn).mono fun e w' ⟨i, o, he, hh⟩ => ?_
    obtain ⟨rfl, rfl⟩ := hv i o hh.out.2
    exact ⟨he, hb.fr hh.out.1 (fun x => x), Lib.hid (h.done (hf.trans hh.out.1 (fun _ _ x => x)))⟩
end Go.Proofs.Ytanaicjeheacoaa
