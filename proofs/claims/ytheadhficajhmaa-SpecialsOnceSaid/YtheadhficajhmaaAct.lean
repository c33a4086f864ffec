/-
  Both at once: what 'act' does to the records and to the reference.
-/
import Derived.Test.YtheadhficajhmaaModel
import Derived.Deep.RegionHeld3
namespace Go.Proofs.Ytheadhficajhmaa
open Go.RowKit
open Sp (cells3 cell3 lt isHd Ok)

/-- the records in block s and the reference in block r have the same records -/
structure Pair (w : World) (s r : Nat) (l : List Rec) : Prop where
  sp : Sp.Is w s l
  rf : ∃ a c, Rf.Is w r a c l ∧ ∀ g, Value.ownBlock (.slice a l.length c) = some g → ¬ Sp.fp s l g
  ne : ¬ Sp.fp s l r
  ok : Ok l

/-- the block of the reference's row -/
def rowOf (w : World) (r : Nat) (l : List Rec) (g : Nat) : Prop := ∃ a c, Rf.Is w r a c l ∧ Value.ownBlock (.slice a l.length c) = some g

theorem Rf.Is.uniq {w : World} {r : Nat} {a a' : Option Addr} {c c' : Nat} {l : List Rec} (h : Rf.Is w r a c l) (h' : Rf.Is w r a' c' l) : a = a' ∧ c = c' := by
  have := h.root.symm.trans h'.root
  simpa using this

theorem rowOf_none {S : Nat → Prop} {w w' : World} {r g : Nat} {a : Option Addr} {c : Nat} {l : List Rec} (h : Rf.Is w r a c l) (hf : Fr S w w') (hr : ¬ S r) (hx : rowOf w' r l g) : rowOf w r l g := by
  obtain ⟨a', c', h1, h2⟩ := hx
  have e := (hf.at h.root hr).symm.trans h1.root
  simp at e
  obtain ⟨rfl, rfl⟩ := e
  exact ⟨a, c, h, h2⟩

/-- what 'act' leaves -/
def ActPost (s r : Nat) (l : List Rec) (w : World) (e : Ending) (w' : World) : Prop :=
  e = .returned (.bool true) ∧ ∃ l', Pair w' s r l' ∧ l'.length ≤ l.length + 1 ∧ (∀ b, Sp.fp s l' b → Sp.fp s l b ∨ w.heap.size ≤ b) ∧ Fr (fun b => Sp.fp s l b ∨ b = r) w w' ∧
    (∀ g, rowOf w' r l' g → rowOf w r l g ∨ w.heap.size ≤ g)

theorem Sp.keep {S : Nat → Prop} {w w' : World} {s : Nat} {l : List Rec} {n : Int} (h : Sp.IsN w s l n) (hf : Fr S w w') (hS : ∀ b, Sp.fp s l b → ¬ S b) : Sp.IsN w' s l n :=
  ⟨hf.at h.root (hS s (.inl rfl)), fun xs r ys hl => hf.at (h.node xs r ys hl) (hS r.b (.inr ⟨r, by simp [hl], rfl⟩)), h.nodup⟩

theorem Pair.fr {S : Nat → Prop} {w w' : World} {s r : Nat} {l : List Rec} (h : Pair w s r l) (hf : Fr S w w') (hS : ∀ b, Sp.fp s l b → ¬ S b) (hr : ¬ S r)
    (hg : ∀ a c, Rf.Is w r a c l → ∀ g, Value.ownBlock (.slice a l.length c) = some g → ¬ S g) : Pair w' s r l := by
  obtain ⟨a, c, h1, h2⟩ := h.rf
  exact ⟨Sp.keep h.sp hf hS, ⟨a, c, h1.fr hf hr (fun b hb => hg a c h1 b hb.symm), h2⟩, h.ne, h.ok⟩

theorem Pair.none {w w' : World} {s r : Nat} {l : List Rec} (h : Pair w s r l) (hf : Fr (fun _ => False) w w') : Pair w' s r l :=
  h.fr hf (fun _ _ x => x) (fun x => x) (fun _ _ _ _ _ x => x)

theorem Pair.post {w w' : World} {s r : Nat} {l : List Rec} (h : Pair w s r l) (hf : Fr (fun _ => False) w w') : ActPost s r l w (.returned (.bool true)) w' :=
  ⟨rfl, l, h.none hf, by omega, fun _ h => .inl h, hf.mono (fun _ _ => False.elim), fun g hg => by
    obtain ⟨a, c, h1, _⟩ := h.rf
    exact .inl (rowOf_none h1 hf (fun x => x) hg)⟩

/-- both have turned to l' -/
theorem Pair.mk2 {w w1 w2 : World} {s r : Nat} {l l' : List Rec} (h : Pair w s r l) (h1 : Sp.Is w1 s l') (hn : ∀ b, Sp.fp s l' b → Sp.fp s l b ∨ w.heap.size ≤ b)
    (hl : ∀ b, Sp.fp s l' b → b < w1.heap.size)
    (h2 : ∃ a c, Rf.Is w2 r a c l' ∧ ∀ g, Value.ownBlock (.slice a l'.length c) = some g → w1.heap.size ≤ g) (f2 : Fr (fun x => x = r) w1 w2) (ok : Ok l') : Pair w2 s r l' := by
  obtain ⟨a, c, hr, hg⟩ := h2
  have hrl : r < w.heap.size := by obtain ⟨a, c, h1, _⟩ := h.rf; exact lt_blk h1.root
  have hne : ¬ Sp.fp s l' r := fun hf => by
    rcases hn r hf with h3 | h3
    · exact h.ne h3
    · omega
  refine ⟨Sp.keep h1 f2 (fun b hb e => hne (e ▸ hb)), ⟨a, c, hr, fun g hgg hf => ?_⟩, hne, ok⟩
  have := hg g hgg
  have := hl g hf
  omega

theorem rowOf_far {w w' : World} {r n : Nat} {l l' : List Rec} (h : ∃ a c, Rf.Is w' r a c l' ∧ ∀ g, Value.ownBlock (.slice a l'.length c) = some g → n ≤ g) (hn : w.heap.size ≤ n) :
    ∀ g, rowOf w' r l' g → rowOf w r l g ∨ w.heap.size ≤ g := by
  rintro g ⟨a', c', h1, h2⟩
  obtain ⟨a, c, h3, h4⟩ := h
  obtain ⟨rfl, rfl⟩ := h3.uniq h1
  exact .inr (Nat.le_trans hn (h4 g h2))

theorem fp_ins {s b : Nat} {xs ys : List Rec} {q : Rec} (h : Sp.fp s (xs ++ q :: ys) b) : Sp.fp s (xs ++ ys) b ∨ b = q.b := by
  rcases h with h | ⟨r, hr, hb⟩
  · exact .inl (.inl h)
  · simp only [List.mem_append, List.mem_cons] at hr
    rcases hr with hr | rfl | hr
    · exact .inl (.inr ⟨r, by simp [hr], hb⟩)
    · exact .inr hb
    · exact .inl (.inr ⟨r, by simp [hr], hb⟩)
theorem fp_sub {s b : Nat} {l l' : List Rec} (hs : ∀ r ∈ l', r ∈ l) (h : Sp.fp s l' b) : Sp.fp s l b := by
  rcases h with h | ⟨r, hr, hb⟩
  · exact .inl h
  · exact .inr ⟨r, hs r hr, hb⟩

theorem eql_errno (x : Int) (W : World) : (binOp .eql 26 (.int .i64 x) (.int .i64 x)).run Try.prog W = .ok (.bool true) W := by
  simp [binOp, Op.intCmp]

/-- the box of the act -/
def Box (N : Nat) (a to k d : Int) (w : World) : Prop := w.cell? ⟨N, 1, none⟩ = some (.int .u64 a) ∧ w.cell? ⟨N, 2, none⟩ = some (.int .u64 to) ∧ w.cell? ⟨N, 3, none⟩ = some (.int .i64 k) ∧ w.cell? ⟨N, 4, none⟩ = some (.int .u64 d)

theorem Box.fr {S : Nat → Prop} {N : Nat} {a to k d : Int} {w w' : World} (h : Box N a to k d w) (hf : Fr S w w') (hS : ¬ S N) : Box N a to k d w' := by
  obtain ⟨h1, h2, h3, h4⟩ := h
  have e := hf.same N (World.block_lt_of_cell? _ _ h1) hS
  exact ⟨(World.cell?_of_block (w := w) e).trans h1, (World.cell?_of_block (w := w) e).trans h2, (World.cell?_of_block (w := w) e).trans h3, (World.cell?_of_block (w := w) e).trans h4⟩

/-- a call that answers v, leaves the box, and of which P holds -/
def Did (v : Value) (N : Nat) (a to k d : Int) (P : World → Prop) (e : Ending) (w' : World) : Prop := e = .returned v ∧ Box N a to k d w' ∧ Hid (P w')

theorem fp_lt' {w : World} {s : Nat} {l : List Rec} {n : Int} (h : Sp.IsN w s l n) : ¬ Sp.fp s l w.heap.size := fun hf => by have := Sp.fp_lt h _ hf; omega

set_option maxHeartbeats 2000000 in
theorem act_add {s r : Nat} {l : List Rec} (a to k d : Int) (w : World) (h : Pair w s r l) (hn : l.length ≤ 1000000) :
    Calls Try.prog 12 #[.pointer (some ⟨s, 0, none⟩), .pointer (some ⟨r, 0, none⟩), .agg #[.int .i64 1, .int .u64 a, .int .u64 to, .int .i64 k, .int .u64 d]] w (ActPost s r l w) := by
  have hsp := Sp.split l a k
  have hx := Sp.split_lt l a k
  have hy := Sp.split_head l a k
  generalize l.takeWhile (lt a k) = xs at hsp hx
  generalize l.dropWhile (lt a k) = ys at hsp hy
  have hpl := Sp.place_of (s := s) hsp hx hy
  -- the two calls, as they are met
  have key : ∃ (v : Int) (P Q : World → Prop),
      (∀ W, Fr (fun _ => False) w W → Box w.heap.size a to k d W → Hid (Calls Try.prog 8 #[.pointer (some ⟨s, 0, none⟩), .int .u64 a, .int .i64 k, .int .u64 d] W (Did (.int .i64 v) w.heap.size a to k d P))) ∧
      (∀ W, P W → Box w.heap.size a to k d W → Hid (Calls Try.prog 20 #[.pointer (some ⟨r, 0, none⟩), .int .u64 a, .int .i64 k, .int .u64 d] W (Did (.int .i64 v) w.heap.size a to k d Q))) ∧
      (∀ W, Q W → ActPost s r l w (.returned (.bool true)) W) := by
    by_cases hk : k < 1 ∨ 3 < k
    · refine ⟨1, Fr (fun _ => False) w, Fr (fun _ => False) w, fun W hf hb => Lib.hid ((Sp.add_arg s a k d W hk).mono fun e w' ⟨he, hw⟩ => ?_), fun W hf hb => Lib.hid ((Rf.add_arg r a k d W hk).mono fun e w' ⟨he, hw⟩ => ?_), fun W hf => h.post hf⟩
      · subst hw; exact ⟨he, hb, Lib.hid hf⟩
      · subst hw; exact ⟨he, hb, Lib.hid hf⟩
    · by_cases hh : isHd ys a k = true
      · refine ⟨34, Fr (fun _ => False) w, Fr (fun _ => False) w, fun W hf hb => Lib.hid ((Sp.add_twice a k d W (h.none hf).sp hsp hpl (by omega) (by omega) hh).mono fun e w' ⟨he, hw⟩ => ?_), fun W hf hb => ?_, fun W hf => h.post hf⟩
        · subst hw; exact ⟨he, hb, Lib.hid hf⟩
        · obtain ⟨a', c', h1, _⟩ := (h.none hf).rf
          exact Lib.hid ((Rf.add_twice a k d W h1 hsp hx hy (by omega) (by omega) (by omega) hh).mono fun e w' ⟨he, hw⟩ => ⟨he, hb.fr hw (fun x => x), Lib.hid (hf.trans hw (fun _ _ x => x))⟩)
      · have hh' : isHd ys a k = false := by simpa using hh
        have hrl : r < w.heap.size := by obtain ⟨a, c, h1, _⟩ := h.rf; exact lt_blk h1.root
        refine ⟨0, fun W => ∃ b, w.heap.size ≤ b ∧ b < W.heap.size ∧ Sp.Is W s (xs ++ ⟨b, a, k, d⟩ :: ys) ∧ Fr (Sp.fp s l) w W ∧ ∃ a' c', Rf.Is W r a' c' l,
          ActPost s r l w (.returned (.bool true)), fun W hf hb => ?_, fun W hP hb => ?_, fun W hq => hq⟩
        · have hW := h.none hf
          refine Lib.hid ((Sp.add_ok a k d W hW.sp hsp hpl (by omega) (by omega) hh' (by omega)).mono fun e w' ⟨he, hi, hw⟩ => ⟨he, hb.fr hw (fun hfp => ?_), Lib.hid ⟨W.heap.size, hf.size, ?_, hi, (show Fr (Sp.fp s l) w W from hf.mono (fun _ _ => False.elim)).trans hw (fun _ _ x => x), ?_⟩⟩)
          · exact fp_lt' h.sp hfp
          · exact Sp.fp_lt hi _ (.inr ⟨⟨W.heap.size, a, k, d⟩, by simp, rfl⟩)
          · obtain ⟨a', c', h1, h2⟩ := hW.rf
            exact ⟨a', c', h1.fr hw hW.ne (fun b hb => h2 b hb.symm)⟩
        · obtain ⟨b, hb1, hb2, hi, hw1, a', c', hr⟩ := hP
          refine Lib.hid ((Rf.add_ok a k d W hr hsp hx hy (by omega) (by omega) (by omega) hh' b).mono fun e w' ⟨he, hr2, hw⟩ => ⟨he, hb.fr hw (by omega), Lib.hid ⟨rfl, xs ++ ⟨b, a, k, d⟩ :: ys, ?_, by rw [hsp]; simp; omega, ?_, ?_⟩⟩)
          · refine h.mk2 hi (fun b' hb' => ?_) (Sp.fp_lt hi) hr2 hw ?_
            · rw [hsp]
              rcases fp_ins hb' with h3 | rfl
              · exact .inl h3
              · exact .inr hb1
            · exact Ok.ins (q := ⟨b, a, k, d⟩) (hsp ▸ h.ok) hx hy hh' (by constructor <;> simp <;> omega)
          · intro b' hb'
            rw [hsp]
            rcases fp_ins hb' with h3 | rfl
            · exact .inl h3
            · exact .inr hb1
          · exact ⟨(hw1.mono (fun _ _ h => .inl h)).trans hw (fun _ _ h => .inr h), rowOf_far hr2 hw1.size⟩
  obtain ⟨v, P, Q, c1, c2, fin⟩ := key
  replace fin := Lib.hid fin
  have hb0 : Box w.heap.size a to k d (w.alloc (.cells #[.int .i64 1, .int .u64 a, .int .u64 to, .int .i64 k, .int .u64 d] 39)).drew := ⟨by simp, by simp, by simp, by simp⟩
  have c1' := c1 _ ((Fr.refl _ w).alloc _).drew hb0
  clear c1 h hn hsp hx hy hpl hb0
  have heq := eql_errno v
  go_enter Try.func12, Try.ntmps12
  go_wp2_with fail
  go_region_held3 (fun w' => w'.cell? ⟨w.heap.size, 1, none⟩ = some (.int .u64 a) ∧ w'.cell? ⟨w.heap.size, 3, none⟩ = some (.int .i64 k) ∧ w'.cell? ⟨w.heap.size, 4, none⟩ = some (.int .u64 d)) (go_keep) ((first | (go_at_call 8; refine c1'.out.mono ?_; rintro e w1 ⟨rfl, hb1, hp1⟩; obtain ⟨b1, b2, b3, b4⟩ := id hb1) | (go_at_call 20; refine (c2 _ hp1.out hb1).out.mono ?_; rintro e w2 ⟨rfl, hb2, hq2⟩; obtain ⟨d1, d2, d3, d4⟩ := id hb2)))
  go_wp2
  go_ret
  exact fin.out _ hq2.out

set_option maxHeartbeats 2000000 in
theorem act_remove {s r : Nat} {l : List Rec} (a to k d : Int) (w : World) (h : Pair w s r l) (hn : l.length ≤ 1000000) :
    Calls Try.prog 12 #[.pointer (some ⟨s, 0, none⟩), .pointer (some ⟨r, 0, none⟩), .agg #[.int .i64 2, .int .u64 a, .int .u64 to, .int .i64 k, .int .u64 d]] w (ActPost s r l w) := by
  have hsp := Sp.split l a k
  have hx := Sp.split_lt l a k
  have hy := Sp.split_head l a k
  generalize l.takeWhile (lt a k) = xs at hsp hx
  generalize l.dropWhile (lt a k) = ys at hsp hy
  have hpl := Sp.place_of (s := s) hsp hx hy
  have key : ∃ (v u : Int) (P Q : World → Prop),
      (∀ W, Fr (fun _ => False) w W → Box w.heap.size a to k d W → Hid (Calls Try.prog 19 #[.pointer (some ⟨s, 0, none⟩), .int .u64 a, .int .i64 k] W (Did (.tuple #[.int .u64 v, .int .i64 u]) w.heap.size a to k d P))) ∧
      (∀ W, P W → Box w.heap.size a to k d W → Hid (Calls Try.prog 21 #[.pointer (some ⟨r, 0, none⟩), .int .u64 a, .int .i64 k] W (Did (.tuple #[.int .u64 v, .int .i64 u]) w.heap.size a to k d Q))) ∧
      (∀ W, Q W → ActPost s r l w (.returned (.bool true)) W) := by
    by_cases hh : isHd ys a k = true
    · obtain ⟨q, zs, rfl⟩ : ∃ q zs, ys = q :: zs := by
        cases ys with
        | nil => simp [isHd] at hh
        | cons q zs => exact ⟨q, zs, rfl⟩
      have hrl : r < w.heap.size := by obtain ⟨a, c, h1, _⟩ := h.rf; exact lt_blk h1.root
      have hq := hy q zs rfl
      refine ⟨q.d, 0, fun W => Sp.Is W s (xs ++ zs) ∧ Fr (Sp.fp s l) w W ∧ ∃ a' c', Rf.Is W r a' c' l, ActPost s r l w (.returned (.bool true)), fun W hf hb => ?_, fun W hP hb => ?_, fun W hq => hq⟩
      · have hW := h.none hf
        refine Lib.hid ((Sp.remove_ok a k W hW.sp hsp hpl hh (by omega)).mono fun e w' ⟨he, hi, hw⟩ => ⟨he, hb.fr hw (fun hfp => fp_lt' h.sp hfp), Lib.hid ⟨hi, (show Fr (Sp.fp s l) w W from hf.mono (fun _ _ => False.elim)).trans hw (fun _ _ x => x), ?_⟩⟩)
        obtain ⟨a', c', h1, h2⟩ := hW.rf
        exact ⟨a', c', h1.fr hw hW.ne (fun b hb => h2 b hb.symm)⟩
      · obtain ⟨hi, hw1, a', c', hr⟩ := hP
        have hsub : ∀ x ∈ xs ++ zs, x ∈ l := by intro x hm; rw [hsp]; simp at hm ⊢; rcases hm with h | h <;> simp [h]
        refine Lib.hid ((Rf.remove_ok a k W hr hsp hx hq (by omega) hh).mono fun e w' ⟨he, hr2, hw⟩ => ⟨he, hb.fr hw (by omega), Lib.hid ⟨rfl, xs ++ zs, ?_, by rw [hsp]; simp; omega, fun b hb => .inl (fp_sub hsub hb), ?_⟩⟩)
        · exact h.mk2 hi (fun b' hb' => .inl (fp_sub hsub hb')) (Sp.fp_lt hi) hr2 hw (h.ok.sub (by rw [hsp]; exact List.Sublist.append_left (List.sublist_cons_self q zs) xs))
        · exact ⟨(hw1.mono (fun _ _ h => .inl h)).trans hw (fun _ _ h => .inr h), rowOf_far hr2 hw1.size⟩
    · have hh' : isHd ys a k = false := by simpa using hh
      refine ⟨0, 35, Fr (fun _ => False) w, Fr (fun _ => False) w, fun W hf hb => Lib.hid ((Sp.remove_none a k W (h.none hf).sp hsp hpl hh').mono fun e w' ⟨he, hw⟩ => ?_), fun W hf hb => ?_, fun W hf => h.post hf⟩
      · subst hw; exact ⟨he, hb, Lib.hid hf⟩
      · obtain ⟨a', c', h1, _⟩ := (h.none hf).rf
        exact Lib.hid ((Rf.remove_none a k W h1 hsp hx hy (by omega) hh').mono fun e w' ⟨he, hw⟩ => ⟨he, hb.fr hw (fun x => x), Lib.hid (hf.trans hw (fun _ _ x => x))⟩)
  obtain ⟨v, u, P, Q, c1, c2, fin⟩ := key
  replace fin := Lib.hid fin
  have hb0 : Box w.heap.size a to k d (w.alloc (.cells #[.int .i64 2, .int .u64 a, .int .u64 to, .int .i64 k, .int .u64 d] 39)) := ⟨by simp, by simp, by simp, by simp⟩
  have c1' := c1 _ ((Fr.refl _ w).alloc _) hb0
  clear c1 h hn hsp hx hy hpl hb0
  have hvv : (v == v) = true := by simp
  have huu : (u == u) = true := by simp
  go_enter Try.func12, Try.ntmps12
  go_wp2_with (first | (go_at_call 19; refine c1'.out.mono ?_; rintro e w1 ⟨rfl, hb1, hp1⟩; obtain ⟨b1, b2, b3, b4⟩ := id hb1) | (go_at_call 21; refine (c2 _ hp1.out hb1).out.mono ?_; rintro e w2 ⟨rfl, hb2, hq2⟩; obtain ⟨d1, d2, d3, d4⟩ := id hb2))
  go_ret
  exact fin.out _ hq2.out

theorem act_other {s r : Nat} {l : List Rec} (n a to k d : Int) (w : World) (h : Pair w s r l) (h1 : n < 1 ∨ 5 < n) :
    Calls Try.prog 12 #[.pointer (some ⟨s, 0, none⟩), .pointer (some ⟨r, 0, none⟩), .agg #[.int .i64 n, .int .u64 a, .int .u64 to, .int .i64 k, .int .u64 d]] w (ActPost s r l w) := by
  have e1 : (n == 1) = false := by simp; omega
  have e2 : (n == 2) = false := by simp; omega
  have e3 : (n == 3) = false := by simp; omega
  have e4 : (n == 4) = false := by simp; omega
  have e5 : (n == 5) = false := by simp; omega
  have H := Lib.hid h
  clear h1 h
  go_enter Try.func12, Try.ntmps12
  go_wp2
  go_ret
  exact H.out.post ((Fr.refl _ w).alloc _)
end Go.Proofs.Ytheadhficajhmaa
