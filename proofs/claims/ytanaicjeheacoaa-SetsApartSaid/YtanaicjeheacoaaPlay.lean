/-
  SetsPlay: the walk.
-/
import Derived.Test.YtanaicjeheacoaaAct2
import Derived.Test.YtanaicjeheacoaaOpen
import Derived.Deep.RegionWith
import Derived.BigRegion
namespace Go.Proofs.Ytanaicjeheacoaa
open Go.RowKit Go.Deep

/-- the call answers true, and leaves what was there -/
def Law (w : World) (e : Ending) (w' : World) : Prop := e = .returned (.bool true) ∧ Fr (fun _ => False) w w'

/-- one act in memory -/
structure ActAt (w : World) (b o : Nat) (n id cls ba : Int) (np fu sw : Bool) : Prop where
  c0 : w.cell? ⟨b, o, none⟩ = some (.int .i64 n)
  c1 : w.cell? ⟨b, o + 1, none⟩ = some (.int .i64 id)
  c2 : w.cell? ⟨b, o + 2, none⟩ = some (.int .i64 cls)
  c3 : w.cell? ⟨b, o + 3, none⟩ = some (.int .u64 ba)
  c4 : w.cell? ⟨b, o + 4, none⟩ = some (.bool np)
  c5 : w.cell? ⟨b, o + 5, none⟩ = some (.bool fu)
  c6 : w.cell? ⟨b, o + 6, none⟩ = some (.bool sw)

theorem ActAt.fr {S : Nat → Prop} {w w' : World} {b o : Nat} {n id cls ba : Int} {np fu sw : Bool} (h : ActAt w b o n id cls ba np fu sw) (hf : Fr S w w') (hS : ¬ S b) : ActAt w' b o n id cls ba np fu sw :=
  ⟨cell_through hf h.c0 hS, cell_through hf h.c1 hS, cell_through hf h.c2 hS, cell_through hf h.c3 hS, cell_through hf h.c4 hS, cell_through hf h.c5 hS, cell_through hf h.c6 hS⟩

/-- a row of acts -/
def Acts (w : World) (v : Value) (n : Nat) : Prop := ∃ ad c, v = .slice ad n c ∧ ∀ i, i < n → ∃ b o x id cls ba np fu sw, ad = some ⟨b, o, none⟩ ∧ ActAt w b (o + i * 7) x id cls ba np fu sw

theorem acts_mk {w : World} {ad : Option Addr} {b o i : Nat} {x id cls ba : Int} {np fu sw : Bool} (c0 : w.cell? ⟨b, o + i * 7, none⟩ = some (.int .i64 x)) (c1 : w.cell? ⟨b, o + i * 7 + 1, none⟩ = some (.int .i64 id)) (c2 : w.cell? ⟨b, o + i * 7 + 2, none⟩ = some (.int .i64 cls))
    (c3 : w.cell? ⟨b, o + i * 7 + 3, none⟩ = some (.int .u64 ba)) (c4 : w.cell? ⟨b, o + i * 7 + 4, none⟩ = some (.bool np)) (c5 : w.cell? ⟨b, o + i * 7 + 5, none⟩ = some (.bool fu)) (c6 : w.cell? ⟨b, o + i * 7 + 6, none⟩ = some (.bool sw))
    (_ : (Lit.int .i64 x).wf = true) (_ : (Lit.int .i64 id).wf = true) (_ : (Lit.int .i64 cls).wf = true) (_ : (Lit.int .u64 ba).wf = true)
    (h : ad = some ⟨b, o, none⟩ := by rfl) : ∃ b o x id cls ba np fu sw, ad = some ⟨b, o, none⟩ ∧ ActAt w b (o + i * 7) x id cls ba np fu sw := ⟨b, o, x, id, cls, ba, np, fu, sw, h, c0, c1, c2, c3, c4, c5, c6⟩

/-- sets and a reference that the call has made -/
structure Played (B s r : Nat) (L : List It) (w0 w : World) : Prop where
  duo : ∃ F, Duo w s r L F ∧ ∀ b, F b → B ≤ b
  fr : Fr (fun b => B ≤ b) w0 w
  le : B ≤ w.heap.size

theorem Played.quiet {B s r : Nat} {L : List It} {w0 w w' : World} (h : Played B s r L w0 w) (hf : Fr (fun _ => False) w w') : Played B s r L w0 w' := by
  obtain ⟨F, h1, h2⟩ := h.duo
  exact ⟨⟨F, h1.quiet hf, h2⟩, h.fr.trans hf (fun _ _ => False.elim), Nat.le_trans h.le hf.size⟩

theorem Played.done {s r : Nat} {L : List It} {w w' : World} (h : Played w.heap.size s r L w w') : Fr (fun _ => False) w w' := h.fr.mono (fun b hb h => by omega)

theorem acted {B s r : Nat} {L : List It} {w0 w : World} (h : Played B s r L w0 w) (n id cls ba : Int) (np fu sw : Bool) (hn : L.length ≤ 1000000) :
    Calls Try.prog 13 #[.pointer (some ⟨s, 0, none⟩), .pointer (some ⟨r, 0, none⟩), .agg #[.int .i64 n, .int .i64 id, .int .i64 cls, .int .u64 ba, .bool np, .bool fu, .bool sw]] w fun e w' =>
      e = .returned (.bool true) ∧ ∃ L', L'.length ≤ L.length + 1 ∧ Hid (Played B s r L' w0 w') := by
  obtain ⟨F, h1, h2⟩ := h.duo
  refine (act_any n id cls ba np fu sw w h1 hn).mono fun e w' ⟨he, L', hd, hl⟩ => ?_
  obtain ⟨F', k1, k2⟩ := hd
  exact ⟨he, L', hl, Lib.hid ⟨⟨F', k1, fun b hb => (k2.new b hb).elim (h2 b) (fun h' => Nat.le_trans h.le h')⟩, h.fr.trans k2.fr (fun b _ hb => h2 b hb), Nat.le_trans h.le k2.fr.size⟩⟩

theorem count_s {B s r : Nat} {L : List It} {w0 w : World} (h : Played B s r L w0 w) (b : Bool) (hn : L.length ≤ 1000000) :
    Calls Try.prog 14 #[.pointer (some ⟨s, 0, none⟩), .bool b] w fun e w' => e = .returned (.int .i64 (num L b)) ∧ Hid (Played B s r L w0 w') := by
  obtain ⟨F, h1, h2⟩ := h.duo
  obtain ⟨F1, F2, k1, _⟩ := h1.both
  exact (count_m k1 b hn).mono fun e w' ⟨he, hf⟩ => ⟨he, Lib.hid (h.quiet hf.out)⟩

theorem count_r {B s r : Nat} {L : List It} {w0 w : World} (h : Played B s r L w0 w) (b : Bool) (hn : L.length ≤ 1000000) :
    Calls Try.prog 15 #[.pointer (some ⟨r, 0, none⟩), .bool b] w fun e w' => e = .returned (.int .i64 (num L b)) ∧ w = w' := by
  obtain ⟨F, h1, h2⟩ := h.duo
  obtain ⟨F1, F2, _, k2, _⟩ := h1.both
  obtain ⟨a, c, k3, _⟩ := k2.is
  exact Rf.count_any b w k3 hn

theorem ref_new (w : World) : Rf.Mine (w.alloc (.cells #[.slice none 0 0] 37)) w.heap.size [] (fun b => b = w.heap.size) :=
  ⟨⟨none, 0, ⟨by rw [heap_alloc, if_pos rfl]; rfl, World.ownsRow_nil _ _ _ _, by simp [Value.ownBlock]⟩, by simp [Value.ownBlock]⟩, rfl, fun b hb => by rw [hb]; simp⟩

theorem played_new {w w1 : World} {s : Nat} (h : Now w s [] (fun _ => False) w1) : Played w.heap.size s w1.heap.size [] w (w1.alloc (.cells #[.slice none 0 0] 37)) := by
  obtain ⟨F, h1, h2⟩ := h
  have hf : Fr (fun _ => False) w1 (w1.alloc (.cells #[.slice none 0 0] 37)) := (Fr.refl _ w1).alloc _
  refine ⟨⟨fun b => F b ∨ b = w1.heap.size, ⟨F, fun b => b = w1.heap.size, h1.quiet hf, ref_new w1, fun b hb e => by have := h1.lt b hb; omega, fun b => Iff.rfl⟩, fun b hb => ?_⟩, (h2.fr.trans hf (fun _ _ x => x)).mono (fun _ _ => False.elim), Nat.le_trans h2.fr.size hf.size⟩
  rcases hb with hb | hb
  · exact (h2.new b hb).elim False.elim (fun x => x)
  · rw [hb]; exact h2.fr.size

set_option maxHeartbeats 4000000 in
theorem play_any (v : Value) (n : Nat) (w : World) (h : Acts w v n) (hn : n ≤ 9223372036854775807) : Calls Try.prog 4 #[v] w (Law w) := by
  obtain ⟨ad, c, rfl, hacts⟩ := h
  by_cases hm : 300 < n
  · clear hacts
    go_enter Try.func4, Try.ntmps4
    go_wp2
    go_ret
    exact ⟨rfl, Fr.refl _ _⟩
  · replace hacts := Lib.hid hacts
    go_enter Try.func4, Try.ntmps4
    go_wp2_with fail
    refine (new_m w).mono ?_
    rintro e w1 ⟨s, rfl, N1⟩
    have P1 := Lib.hid (played_new N1.out)
    clear N1
    go_wp2_with fail
    go_loopg [5] n (fun k i wr => ∃ (j : Nat) (L : List It), i = .int .i64 j ∧ j + k = n ∧ L.length ≤ j ∧ Hid (Played w.heap.size s w1.heap.size L w wr))
    case atStart => exact ⟨0, [], rfl, by simp, by simp, P1⟩
    case round =>
      obtain ⟨j, L, rfl, hj, hl, HP⟩ := hrel
      clear P1
      by_cases hlt : j < n
      · obtain ⟨b, o, x, iv, cls, ba, np, fu, sw, rfl, hact⟩ := hacts.out j hlt
        have hbw : b < w.heap.size := by have := World.block_lt_of_cell? _ _ hact.c0; simpa using this
        obtain ⟨c0, c1, c2, c3, c4, c5, c6⟩ := hact.fr HP.out.fr (by omega)
        have A := Lib.hid (acted HP.out x iv cls ba np fu sw (by omega))
        have HJ := Lib.hid (And.intro hj (And.intro hl hm))
        clear hact hbw hj hl
        go_wp2_with fail
        refine A.out.mono ?_
        rintro e w2 ⟨rfl, L2, hl2, P2⟩
        have HL := Lib.hid hl2
        clear hl2 c0 c1 c2 c3 c4 c5 c6
        have K1 := Lib.hid (count_s P2.out true (by have := HL.out; have := HJ.out; omega))
        have e1 : (((num L2 true : Nat) : Int) != ((num L2 true : Nat) : Int)) = false := by simp
        have e2 : (((num L2 false : Nat) : Int) != ((num L2 false : Nat) : Int)) = false := by simp
        go_wp2_with fail
        refine K1.out.mono ?_
        rintro e w3 ⟨rfl, P3⟩
        have K2 := Lib.hid (count_r P3.out true (by have := HL.out; have := HJ.out; omega))
        go_wp2_with fail
        refine K2.out.mono ?_
        rintro e w3 ⟨rfl, rfl⟩
        have K3 := Lib.hid (count_s P3.out false (by have := HL.out; have := HJ.out; omega))
        go_wp2_with fail
        refine K3.out.mono ?_
        rintro e w4 ⟨rfl, P4⟩
        have K4 := Lib.hid (count_r P4.out false (by have := HL.out; have := HJ.out; omega))
        go_wp2_with fail
        refine K4.out.mono ?_
        rintro e w4 ⟨rfl, rfl⟩
        go_wp2
        go_roundg (gk - 1)
        case measure => have := HJ.out; omega
        case rel => have := HJ.out; have := HL.out; exact ⟨j + 1, L2, by go_num, by omega, by omega, P4⟩
      · clear hj hl
        go_wp2_with fail
        refine (awake_any wr).mono ?_
        rintro e w2 ⟨rfl, g2⟩
        have G2 := Lib.hid (HP.out.done.trans g2 (fun _ _ h => h))
        clear g2
        go_wp2
        go_ret
        exact ⟨rfl, G2.out⟩

theorem play_said (w : World) (v : Value) (n : Nat) (h : Acts w v n) (hn : n ≤ 9223372036854775807) : Calls Try.prog 4 #[v] w (Law w) := play_any v n w h hn
end Go.Proofs.Ytanaicjeheacoaa
