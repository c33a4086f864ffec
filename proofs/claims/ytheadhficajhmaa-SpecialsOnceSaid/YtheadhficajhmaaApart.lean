/-
  SpecialsApart: the walk.
-/
import Derived.Test.YtheadhficajhmaaPlay
import Derived.Test.YtheadhficajhmaaOpen
namespace Go.Proofs.Ytheadhficajhmaa
open Go.RowKit
open Sp (cells3 cell3 lt isHd Ok)

def pfp (w : World) (s r : Nat) (l : List Rec) (b : Nat) : Prop := Sp.fp s l b ∨ b = r ∨ rowOf w r l b

theorem pfp_lt {w : World} {s r : Nat} {l : List Rec} (h : Pair w s r l) : ∀ b, pfp w s r l b → b < w.heap.size := by
  rintro b (h1 | rfl | ⟨a, c, h1, h2⟩)
  · exact Sp.fp_lt h.sp b h1
  · obtain ⟨a, c, h1, _⟩ := h.rf; exact lt_blk h1.root
  · exact (h1.row.lt b h2).2

/-- two that are apart -/
structure Two (B s r t q : Nat) (l m : List Rec) (w0 w : World) : Prop where
  one : Play B s r l w0 w
  two : Play B t q m w0 w
  far : ∀ b, pfp w s r l b → ¬ pfp w t q m b

theorem Two.swap {B s r t q : Nat} {l m : List Rec} {w0 w : World} (h : Two B s r t q l m w0 w) : Two B t q s r m l w0 w :=
  ⟨h.two, h.one, fun b h1 h2 => h.far b h2 h1⟩

theorem Two.act {B s r t q : Nat} {l l' m : List Rec} {w0 w w' : World} (h : Two B s r t q l m w0 w) (hB : B ≤ w.heap.size) (hp : Pair w' s r l') (hn : ∀ b, Sp.fp s l' b → Sp.fp s l b ∨ w.heap.size ≤ b)
    (hf : Fr (fun b => Sp.fp s l b ∨ b = r) w w') (hg : ∀ g, rowOf w' r l' g → rowOf w r l g ∨ w.heap.size ≤ g) : Two B s r t q l' m w0 w' := by
  have hS : ∀ b, (Sp.fp s l b ∨ b = r) → pfp w s r l b := fun b hb => hb.elim .inl (fun h => .inr (.inl h))
  have h2 : Pair w' t q m := h.two.pair.fr hf (fun b hb hs => h.far b (hS b hs) (.inl hb)) (fun hs => h.far q (hS q hs) (.inr (.inl rfl)))
    (fun a c h1 g hgg hs => h.far g (hS g hs) (.inr (.inr ⟨a, c, h1, hgg⟩)))
  refine ⟨h.one.act hB hp hn hf, ⟨h2, h.two.fp, h.two.r, h.two.fr.trans hf (fun b _ hb => by rcases hb with h1 | h1; exact h.one.fp b h1; rw [h1]; exact h.one.r)⟩, fun b h1 h3 => ?_⟩
  have h4 : pfp w t q m b := by
    rcases h3 with h3 | h3 | h3
    · exact .inl h3
    · exact .inr (.inl h3)
    · obtain ⟨a, c, h5, _⟩ := h.two.pair.rf
      exact .inr (.inr (rowOf_none h5 hf (fun hs => h.far q (hS q hs) (.inr (.inl rfl))) h3))
  have hlt := pfp_lt h.two.pair b h4
  have h5 : pfp w s r l b := by
    rcases h1 with h1 | h1 | h1
    · rcases hn b h1 with h6 | h6
      · exact .inl h6
      · omega
    · exact .inr (.inl h1)
    · rcases hg b h1 with h6 | h6
      · exact .inr (.inr h6)
      · omega
  exact h.far b h5 h4

theorem Two.none {B s r t q : Nat} {l m : List Rec} {w0 w w' : World} (h : Two B s r t q l m w0 w) (hf : Fr (fun _ => False) w w') : Two B s r t q l m w0 w' := by
  refine ⟨h.one.none hf, h.two.none hf, fun b h1 h2 => h.far b ?_ ?_⟩
  · rcases h1 with h1 | h1 | h1
    · exact .inl h1
    · exact .inr (.inl h1)
    · obtain ⟨a, c, h5, _⟩ := h.one.pair.rf
      exact .inr (.inr (rowOf_none h5 hf (fun x => x) h1))
  · rcases h2 with h1 | h1 | h1
    · exact .inl h1
    · exact .inr (.inl h1)
    · obtain ⟨a, c, h5, _⟩ := h.two.pair.rf
      exact .inr (.inr (rowOf_none h5 hf (fun x => x) h1))

/-- what the next act, on the first, leaves -/
def Acted2 (B s r t q : Nat) (l m : List Rec) (w0 : World) (e : Ending) (w' : World) : Prop :=
  e = .returned (.bool true) ∧ ∃ l', Two B s r t q l' m w0 w' ∧ l'.length ≤ l.length + 1

theorem acted2 {B s r t q : Nat} {x a to k d : Int} {l m : List Rec} {w0 w : World} (h : Two B s r t q l m w0 w) (hB : B ≤ w.heap.size) (hn : l.length ≤ 1000000) :
    Calls Try.prog 12 #[.pointer (some ⟨s, 0, none⟩), .pointer (some ⟨r, 0, none⟩), .agg #[.int .i64 x, .int .u64 a, .int .u64 to, .int .i64 k, .int .u64 d]] w (Acted2 B s r t q l m w0) :=
  (act_any x a to k d w h.one.pair hn).mono fun _ _ ⟨he, l', hp, hl, hnew, hf, hg⟩ => ⟨he, l', h.act hB hp hnew hf hg, hl⟩

theorem fp_nil {s b : Nat} (h : Sp.fp s [] b) : b = s := by
  rcases h with h | ⟨r, hr, _⟩
  · exact h
  · simp at hr

theorem two_new {w w1 w2 : World} (h1 : Sp.Is w1 w.heap.size []) (f1 : Fr (fun _ => False) w w1) (h2 : Sp.Is w2 w1.heap.size []) (f2 : Fr (fun _ => False) w1 w2) :
    Two w.heap.size w.heap.size w2.heap.size w1.heap.size (w2.heap.size + 1) [] [] w ((w2.alloc (.cells #[.slice none 0 0] 36)).alloc (.cells #[.slice none 0 0] 36)) := by
  have l1 := h1.lt.1
  have l2 := h2.lt.1
  have fA : Fr (fun _ => False) w2 (w2.alloc (.cells #[.slice none 0 0] 36)) := (Fr.refl _ w2).alloc _
  have fB : Fr (fun _ => False) (w2.alloc (.cells #[.slice none 0 0] 36)) ((w2.alloc (.cells #[.slice none 0 0] 36)).alloc (.cells #[.slice none 0 0] 36)) := (Fr.refl _ _).alloc _
  have p1 := (pair_new (Sp.nodes_keep h1 f2) (fun b hb => by have := fp_nil hb; omega)).none fB
  have p2 := pair_new (Sp.nodes_keep h2 fA) (fun b hb => by have := fp_nil hb; simp; omega)
  rw [World.size_alloc] at p2
  have fr : Fr (fun b => w.heap.size ≤ b) w ((w2.alloc (.cells #[.slice none 0 0] 36)).alloc (.cells #[.slice none 0 0] 36)) :=
    (((f1.trans f2 (fun _ _ x => x)).trans fA (fun _ _ x => x)).trans fB (fun _ _ x => x)).mono (fun _ _ => False.elim)
  have hrow : ∀ {W : World} {x r b a c}, Rf.Is W x a c [] → rowOf W r [] b → x = r → a = none → False := by
    rintro W x r b a c hi ⟨a', c', h3, h4⟩ rfl rfl
    obtain ⟨rfl, _⟩ := hi.uniq h3
    simp [Value.ownBlock] at h4
  have hr1 : Rf.Is ((w2.alloc (.cells #[.slice none 0 0] 36)).alloc (.cells #[.slice none 0 0] 36)) w2.heap.size none 0 [] :=
    ⟨by rw [heap_alloc, if_neg (by simp), heap_alloc, if_pos rfl]; rfl, World.ownsRow_nil _ _ _ _, by simp [Value.ownBlock]⟩
  have hr2 : Rf.Is ((w2.alloc (.cells #[.slice none 0 0] 36)).alloc (.cells #[.slice none 0 0] 36)) (w2.heap.size + 1) none 0 [] :=
    ⟨by rw [heap_alloc, if_pos (by simp)]; rfl, World.ownsRow_nil _ _ _ _, by simp [Value.ownBlock]⟩
  refine ⟨⟨p1, fun b hb => by have := fp_nil hb; omega, by omega, fr⟩, ⟨p2, fun b hb => by have := fp_nil hb; omega, by omega, fr⟩, ?_⟩
  rintro b (h3 | h3 | h3) (h4 | h4 | h4)
  · have := fp_nil h3; have := fp_nil h4; omega
  · have := fp_nil h3; omega
  · exact hrow hr2 h4 rfl rfl
  · have := fp_nil h4; omega
  · omega
  · exact hrow hr2 h4 rfl rfl
  · exact hrow hr1 h3 rfl rfl
  · exact hrow hr1 h3 rfl rfl
  · exact hrow hr1 h3 rfl rfl

set_option maxHeartbeats 4000000 in
theorem apart_any (v u : Value) (n m : Nat) (w : World) (h : Acts w v n) (hn : n ≤ 9223372036854775807) (h' : Bools w u m) : Calls Try.prog 5 #[v, u] w (Law w) := by
  obtain ⟨ad, c, rfl, hacts⟩ := h
  obtain ⟨ad', c', rfl, hbools⟩ := h'
  by_cases hm : 300 < n
  · clear hacts hbools
    go_enter Try.func5, Try.ntmps5
    go_wp2
    go_ret
    exact ⟨rfl, Fr.refl _ _⟩
  · replace hacts := Lib.hid hacts
    replace hbools := Lib.hid hbools
    go_enter Try.func5, Try.ntmps5
    go_wp2_with fail
    refine (Sp.new_any w).mono ?_
    rintro e w1 ⟨rfl, h1, f1⟩
    replace h1 := Lib.hid h1
    replace f1 := Lib.hid f1
    go_wp2_with fail
    refine (Sp.new_any w1).mono ?_
    rintro e w2 ⟨rfl, h2, f2⟩
    have ht : Hid (Two w.heap.size w.heap.size w2.heap.size w1.heap.size (w2.heap.size + 1) [] [] w ((w2.alloc (.cells #[.slice none 0 0] 36)).alloc (.cells #[.slice none 0 0] 36))) := by
      exact Lib.hid (two_new h1.out f1.out h2 f2)
    clear h1 f1 h2 f2
    go_wp2_with fail
    go_loopg [9] n (fun k i wr => ∃ (j : Nat) (l1 l2 : List Rec), i = .int .i64 j ∧ j + k = n ∧ l1.length ≤ j ∧ l2.length ≤ j ∧ Two w.heap.size w.heap.size w2.heap.size w1.heap.size (w2.heap.size + 1) l1 l2 w wr)
    case atStart => exact ⟨0, [], [], rfl, by simp, by simp, by simp, ht.out⟩
    case round =>
      obtain ⟨j, l1, l2, rfl, hj, hl1, hl2, htwo⟩ := hrel
      clear ht
      by_cases hlt : j < n
      · obtain ⟨b, o, x, a, to, k, d, rfl, hact⟩ := hacts.out j hlt
        have hbw : b < w.heap.size := by have := World.block_lt_of_cell? _ _ hact.c0; simpa using this
        have hact' := hact.fr htwo.one.fr (by omega)
        have hB := htwo.one.fr.size
        obtain ⟨c0, c1, c2, c3, c4⟩ := hact'
        have A := Lib.hid (And.intro hj (And.intro hl1 (And.intro hl2 hbw)))
        clear hbw
        by_cases htm : j < m
        · obtain ⟨b', o', z, rfl, hz⟩ := hbools.out j htm
          have hz' : wr.cell? ⟨b', o' + j, none⟩ = some (.bool z) := by
            rw [World.cell?_of_block (w := w) (htwo.one.fr.same b' (World.block_lt_of_cell? _ _ hz) (by have := World.block_lt_of_cell? _ _ hz; simp at this; omega))]; exact hz
          clear hz
          cases z with
          | true =>
            have hcall := Lib.hid (acted2 htwo.swap hB (by omega) (x := x) (a := a) (to := to) (k := k) (d := d))
            clear hj hl1 hl2 htwo hact hB
            go_wp2_with (first | (go_at_call 12; refine hcall.out.mono ?_; rintro e w3 ⟨rfl, l3, ht3, hl3⟩))
            have A3 := Lib.hid (And.intro ht3 hl3)
            clear ht3 hl3
            go_roundg (gk - 1)
            case measure => have := A.out; omega
            case rel => have := A.out; have := A3.out.2; exact ⟨j + 1, l1, l3, by go_num, by omega, by omega, by omega, A3.out.1.swap⟩
          | false =>
            have hcall := Lib.hid (acted2 htwo hB (by omega) (x := x) (a := a) (to := to) (k := k) (d := d))
            clear hj hl1 hl2 htwo hact hB
            go_wp2_with (first | (go_at_call 12; refine hcall.out.mono ?_; rintro e w3 ⟨rfl, l3, ht3, hl3⟩))
            have A3 := Lib.hid (And.intro ht3 hl3)
            clear ht3 hl3
            go_roundg (gk - 1)
            case measure => have := A.out; omega
            case rel => have := A.out; have := A3.out.2; exact ⟨j + 1, l3, l2, by go_num, by omega, by omega, by omega, A3.out.1⟩
        · have htd : decide (j < m) = false := by simpa using htm
          clear htm
          have hcall := Lib.hid (acted2 htwo hB (by omega) (x := x) (a := a) (to := to) (k := k) (d := d))
          clear hj hl1 hl2 htwo hact hB
          go_wp2_with (first | (go_at_call 12; refine hcall.out.mono ?_; rintro e w3 ⟨rfl, l3, ht3, hl3⟩))
          have A3 := Lib.hid (And.intro ht3 hl3)
          clear ht3 hl3
          go_roundg (gk - 1)
          case measure => have := A.out; omega
          case rel => have := A.out; have := A3.out.2; exact ⟨j + 1, l3, l2, by go_num, by omega, by omega, by omega, A3.out.1⟩
      · obtain ⟨a1, d1, r1, _⟩ := htwo.one.pair.rf
        obtain ⟨a2, d2, r2, _⟩ := htwo.two.pair.rf
        have q1 : wr.cell? ⟨w2.heap.size, 0, none⟩ = some (.slice a1 l1.length d1) := cell_blk r1.root 0
        have q2 : wr.cell? ⟨w2.heap.size + 1, 0, none⟩ = some (.slice a2 l2.length d2) := cell_blk r2.root 0
        have k1 := Lib.hid (Sp.count_any wr.drew (htwo.none (Fr.refl _ wr).drew).one.pair.sp)
        have k2 := Lib.hid (Sp.count_any wr.drew (htwo.none (Fr.refl _ wr).drew).two.pair.sp)
        have e1 : ((l1.length : Int) == (l1.length : Int)) = true := by simp
        have e2 : ((l2.length : Int) == (l2.length : Int)) = true := by simp
        have hF := Lib.hid (show Fr (fun _ => False) w wr from htwo.one.fr.mono (fun b hb h => by omega))
        have ha := Lib.hid ((awake_any wr.drew).mono (R' := fun e w' => e = .returned (.bool true) ∧ w'.cell? ⟨w2.heap.size, 0, none⟩ = some (.slice a1 l1.length d1) ∧ w'.cell? ⟨w2.heap.size + 1, 0, none⟩ = some (.slice a2 l2.length d2) ∧ Hid (Fr (fun _ => False) w w'))
          (fun e w' ⟨he, hf⟩ => ⟨he, cell_blk (hf.at (w := wr.drew) r1.root (fun x => x)) 0, cell_blk (hf.at (w := wr.drew) r2.root (fun x => x)) 0, Lib.hid (hF.out.drew.trans hf (fun _ _ x => x))⟩))
        clear hj hl1 hl2 htwo r1 r2
        go_wp2_with fail
        go_region_held3 (fun w' => w'.cell? ⟨w2.heap.size, 0, none⟩ = some (.slice a1 l1.length d1) ∧ w'.cell? ⟨w2.heap.size + 1, 0, none⟩ = some (.slice a2 l2.length d2)) (go_keep) ((first | (go_at_call_of 13 (Value.pointer (some ⟨w.heap.size, 0, none⟩)); refine k1.out.mono ?_; rintro e w' ⟨rfl, rfl⟩) | (go_at_call_of 13 (Value.pointer (some ⟨w1.heap.size, 0, none⟩)); refine k2.out.mono ?_; rintro e w' ⟨rfl, rfl⟩) | (go_at_call 11; refine ha.out.mono ?_; rintro e w3 ⟨rfl, p1, p2, hfin⟩)))
        go_wp2
        go_ret
        exact ⟨rfl, hfin.out⟩

theorem apart_said (w : World) (v : Value) (n : Nat) (h : Acts w v n) (hn : n ≤ 9223372036854775807) (u : Value) (m : Nat) (h' : Bools w u m) : Calls Try.prog 5 #[v, u] w (Law w) := apart_any v u n m w h hn h'
end Go.Proofs.Ytheadhficajhmaa
