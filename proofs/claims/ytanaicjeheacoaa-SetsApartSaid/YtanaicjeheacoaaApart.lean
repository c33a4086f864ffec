/-
  SetsApart: the walk.
-/
import Derived.Test.YtanaicjeheacoaaPlay
namespace Go.Proofs.Ytanaicjeheacoaa
open Go.RowKit Go.Deep

/-- two pairs that are apart -/
structure Both (B s r t q : Nat) (L M : List It) (w0 w : World) : Prop where
  duo : ∃ F G, Duo w s r L F ∧ Duo w t q M G ∧ (∀ b, F b → ¬ G b) ∧ ∀ b, F b ∨ G b → B ≤ b
  fr : Fr (fun b => B ≤ b) w0 w
  le : B ≤ w.heap.size

theorem Both.swap {B s r t q : Nat} {L M : List It} {w0 w : World} (h : Both B s r t q L M w0 w) : Both B t q s r M L w0 w := by
  obtain ⟨F, G, h1, h2, h3, h4⟩ := h.duo
  exact ⟨⟨G, F, h2, h1, fun b hg hf => h3 b hf hg, fun b hb => h4 b hb.symm⟩, h.fr, h.le⟩

theorem Both.quiet {B s r t q : Nat} {L M : List It} {w0 w w' : World} (h : Both B s r t q L M w0 w) (hf : Fr (fun _ => False) w w') : Both B s r t q L M w0 w' := by
  obtain ⟨F, G, h1, h2, h3, h4⟩ := h.duo
  exact ⟨⟨F, G, h1.quiet hf, h2.quiet hf, h3, h4⟩, h.fr.trans hf (fun _ _ => False.elim), Nat.le_trans h.le hf.size⟩

theorem Both.done {s r t q : Nat} {L M : List It} {w w' : World} (h : Both w.heap.size s r t q L M w w') : Fr (fun _ => False) w w' := h.fr.mono (fun b hb h => by omega)

theorem acted2 {B s r t q : Nat} {L M : List It} {w0 w : World} (h : Both B s r t q L M w0 w) (n id cls ba : Int) (np fu sw : Bool) (hn : L.length ≤ 1000000) :
    Calls Try.prog 13 #[.pointer (some ⟨s, 0, none⟩), .pointer (some ⟨r, 0, none⟩), .agg #[.int .i64 n, .int .i64 id, .int .i64 cls, .int .u64 ba, .bool np, .bool fu, .bool sw]] w fun e w' =>
      e = .returned (.bool true) ∧ ∃ L', L'.length ≤ L.length + 1 ∧ Hid (Both B s r t q L' M w0 w') := by
  obtain ⟨F, G, h1, h2, h3, h4⟩ := h.duo
  refine (act_any n id cls ba np fu sw w h1 hn).mono fun e w' ⟨he, L', hd, hl⟩ => ?_
  obtain ⟨F', k1, k2⟩ := hd
  refine ⟨he, L', hl, Lib.hid ⟨⟨F', G, k1, h2.keep k2.fr (fun b hg hf => h3 b hf hg), fun b hb hg => ?_, fun b hb => ?_⟩, h.fr.trans k2.fr (fun b _ hb => h4 b (.inl hb)), Nat.le_trans h.le k2.fr.size⟩⟩
  · rcases k2.new b hb with hb1 | hb1
    · exact h3 b hb1 hg
    · have := h2.lt b hg; omega
  · rcases hb with hb | hb
    · exact (k2.new b hb).elim (fun x => h4 b (.inl x)) (fun h' => Nat.le_trans h.le h')
    · exact h4 b (.inr hb)

theorem count_bs {B s r t q : Nat} {L M : List It} {w0 w : World} (h : Both B s r t q L M w0 w) (b : Bool) (hn : L.length ≤ 1000000) :
    Calls Try.prog 14 #[.pointer (some ⟨s, 0, none⟩), .bool b] w fun e w' => e = .returned (.int .i64 (num L b)) ∧ Hid (Both B s r t q L M w0 w') := by
  obtain ⟨F, G, h1, _⟩ := h.duo
  obtain ⟨F1, F2, k1, _⟩ := h1.both
  exact (count_m k1 b hn).mono fun e w' ⟨he, hf⟩ => ⟨he, Lib.hid (h.quiet hf.out)⟩

theorem count_br {B s r t q : Nat} {L M : List It} {w0 w : World} (h : Both B s r t q L M w0 w) (b : Bool) (hn : L.length ≤ 1000000) :
    Calls Try.prog 15 #[.pointer (some ⟨r, 0, none⟩), .bool b] w fun e w' => e = .returned (.int .i64 (num L b)) ∧ w = w' := by
  obtain ⟨F, G, h1, _⟩ := h.duo
  obtain ⟨F1, F2, _, k2, _⟩ := h1.both
  obtain ⟨a, c, k3, _⟩ := k2.is
  exact Rf.count_any b w k3 hn

theorem both_new {w w1 w2 : World} {s t : Nat} (h : Now w s [] (fun _ => False) w1) (h' : Now w1 t [] (fun _ => False) w2) :
    Both w.heap.size s w2.heap.size t (w2.heap.size + 1) [] [] w ((w2.alloc (.cells #[.slice none 0 0] 37)).alloc (.cells #[.slice none 0 0] 37)) := by
  obtain ⟨F, h1, h2⟩ := h
  obtain ⟨G, g1, g2⟩ := h'
  have hfa : Fr (fun _ => False) w2 (w2.alloc (.cells #[.slice none 0 0] 37)) := (Fr.refl _ w2).alloc _
  have hfb : Fr (fun _ => False) (w2.alloc (.cells #[.slice none 0 0] 37)) ((w2.alloc (.cells #[.slice none 0 0] 37)).alloc (.cells #[.slice none 0 0] 37)) := (Fr.refl _ _).alloc _
  have hf := hfa.trans hfb (fun _ _ x => x)
  have r2 := ref_new (w2.alloc (.cells #[.slice none 0 0] 37))
  rw [World.size_alloc] at r2
  have hF : ∀ b, F b → w.heap.size ≤ b ∧ b < w1.heap.size := fun b hb => ⟨(h2.new b hb).elim False.elim (fun x => x), h1.lt b hb⟩
  have hG : ∀ b, G b → w1.heap.size ≤ b ∧ b < w2.heap.size := fun b hb => ⟨(g2.new b hb).elim False.elim (fun x => x), g1.lt b hb⟩
  have z1 := h2.fr.size
  have z2 := g2.fr.size
  refine ⟨⟨fun b => F b ∨ b = w2.heap.size, fun b => G b ∨ b = w2.heap.size + 1, ⟨F, fun b => b = w2.heap.size, (h1.quiet g2.fr).quiet hf, (ref_new w2).quiet hfb, fun b hb e => by have := hF b hb; omega, fun b => Iff.rfl⟩,
    ⟨G, fun b => b = w2.heap.size + 1, g1.quiet hf, r2, fun b hb e => by have := hG b hb; omega, fun b => Iff.rfl⟩, fun b hb hg => ?_, fun b hb => ?_⟩, ((h2.fr.trans g2.fr (fun _ _ x => x)).trans hf (fun _ _ x => x)).mono (fun _ _ => False.elim), by have := hf.size; omega⟩
  · rcases hb with hb | hb <;> rcases hg with hg | hg
    · have := hF b hb; have := hG b hg; omega
    · have := hF b hb; omega
    · have := hG b hg; omega
    · omega
  · rcases hb with (hb | hb) | (hb | hb)
    · exact (hF b hb).1
    · omega
    · have := hG b hb; omega
    · omega

set_option maxHeartbeats 4000000 in
theorem apart_any (v u : Value) (n m : Nat) (w : World) (h : Acts w v n) (hn : n ≤ 9223372036854775807) (h' : Bools w u m) : Calls Try.prog 5 #[v, u] w (Law w) := by
  obtain ⟨ad, c, rfl, hacts⟩ := h
  obtain ⟨ad', c', rfl, hbools⟩ := h'
  by_cases hm : 300 < n
  · clear hacts hbools
    go_enter Try.func5, Try.ntmps5
    go_wp2
    go_ret
    exact ⟨rfl, Fr.refl _ _⟩
  · replace hacts := Lib.hid hacts
    replace hbools := Lib.hid hbools
    go_enter Try.func5, Try.ntmps5
    go_wp2_with fail
    refine (new_m w).mono ?_
    rintro e w1 ⟨s, rfl, N1⟩
    go_wp2_with fail
    refine (new_m w1).mono ?_
    rintro e w2 ⟨t, rfl, N2⟩
    have P1 := Lib.hid (both_new N1.out N2.out)
    clear N1 N2
    go_wp2_with fail
    go_loopg [9] n (fun k i wr => ∃ (j : Nat) (L M : List It), i = .int .i64 j ∧ j + k = n ∧ L.length ≤ j ∧ M.length ≤ j ∧ Hid (Both w.heap.size s w2.heap.size t (w2.heap.size + 1) L M w wr))
    case atStart => exact ⟨0, [], [], rfl, by simp, by simp, by simp, P1⟩
    case round =>
      obtain ⟨j, L, M, rfl, hj, hl1, hl2, HP⟩ := hrel
      clear P1
      by_cases hlt : j < n
      · obtain ⟨b, o, x, iv, cls, ba, np, fu, sw, rfl, hact⟩ := hacts.out j hlt
        have hbw : b < w.heap.size := by have := World.block_lt_of_cell? _ _ hact.c0; simpa using this
        obtain ⟨c0, c1, c2, c3, c4, c5, c6⟩ := hact.fr HP.out.fr (by omega)
        have A1 := Lib.hid (acted2 HP.out x iv cls ba np fu sw (by omega))
        have A2 := Lib.hid (acted2 HP.out.swap x iv cls ba np fu sw (by omega))
        have HJ := Lib.hid (And.intro hj (And.intro hl1 (And.intro hl2 hm)))
        clear hact hbw hj hl1 hl2
        by_cases htm : j < m
        · obtain ⟨b', o', z, rfl, hz⟩ := hbools.out j htm
          have hz' : wr.cell? ⟨b', o' + j, none⟩ = some (.bool z) := cell_through HP.out.fr hz (by have := World.block_lt_of_cell? _ _ hz; simp at this; omega)
          clear hz
          cases z with
          | true =>
            go_wp2_with fail
            refine A2.out.mono ?_
            rintro e w3 ⟨rfl, M2, hm2, P2⟩
            have HL := Lib.hid hm2
            clear hm2
            go_wp2
            go_roundg (gk - 1)
            case measure => have := HJ.out; omega
            case rel => have := HJ.out; have := HL.out; exact ⟨j + 1, L, M2, by go_num, by omega, by omega, by omega, Lib.hid P2.out.swap⟩
          | false =>
            go_wp2_with fail
            refine A1.out.mono ?_
            rintro e w3 ⟨rfl, L2, hm2, P2⟩
            have HL := Lib.hid hm2
            clear hm2
            go_wp2
            go_roundg (gk - 1)
            case measure => have := HJ.out; omega
            case rel => have := HJ.out; have := HL.out; exact ⟨j + 1, L2, M, by go_num, by omega, by omega, by omega, P2⟩
        · have htd : decide (j < m) = false := by simpa using htm
          clear htm
          go_wp2_with fail
          refine A1.out.mono ?_
          rintro e w3 ⟨rfl, L2, hm2, P2⟩
          have HL := Lib.hid hm2
          clear hm2
          go_wp2
          go_roundg (gk - 1)
          case measure => have := HJ.out; omega
          case rel => have := HJ.out; have := HL.out; exact ⟨j + 1, L2, M, by go_num, by omega, by omega, by omega, P2⟩
      · have HL := Lib.hid (show L.length ≤ 1000000 ∧ M.length ≤ 1000000 by omega)
        have e1 : (((num L true : Nat) : Int) == ((num L true : Nat) : Int)) = true := by simp
        have e2 : (((num M false : Nat) : Int) == ((num M false : Nat) : Int)) = true := by simp
        have K1 := Lib.hid (count_bs HP.out true HL.out.1)
        clear hj hl1 hl2
        go_wp2_with fail
        refine K1.out.mono ?_
        rintro e w3 ⟨rfl, P3⟩
        have K2 := Lib.hid (count_br P3.out true HL.out.1)
        go_wp2_with fail
        refine K2.out.mono ?_
        rintro e w3 ⟨rfl, rfl⟩
        have K3 := Lib.hid (count_bs P3.out.swap false HL.out.2)
        go_wp2_with fail
        refine K3.out.mono ?_
        rintro e w4 ⟨rfl, P4⟩
        have K4 := Lib.hid (count_br P4.out false HL.out.2)
        go_wp2_with fail
        refine K4.out.mono ?_
        rintro e w4 ⟨rfl, rfl⟩
        go_wp2_with fail
        refine (awake_any w4).mono ?_
        rintro e w5 ⟨rfl, g5⟩
        have G5 := Lib.hid (P4.out.done.trans g5 (fun _ _ h => h))
        clear g5
        go_wp2
        go_ret
        exact ⟨rfl, G5.out⟩

theorem apart_said (w : World) (v : Value) (n : Nat) (h : Acts w v n) (hn : n ≤ 9223372036854775807) (u : Value) (m : Nat) (h' : Bools w u m) : Calls Try.prog 5 #[v, u] w (Law w) := apart_any v u n m w h hn h'
end Go.Proofs.Ytanaicjeheacoaa
