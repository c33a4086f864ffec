/-
  SpecialsPlay and SpecialsApart: the walks.
-/
import Derived.Test.YtheadhficajhmaaAwake
import Derived.Deep.RegionWith
import Derived.BigRegion
namespace Go.Proofs.Ytheadhficajhmaa
open Go.RowKit
open Sp (cells3 cell3 lt isHd Ok)

/-- one act in memory -/
structure ActAt (w : World) (b o : Nat) (n a to k d : Int) : Prop where
  c0 : w.cell? ⟨b, o, none⟩ = some (.int .i64 n)
  c1 : w.cell? ⟨b, o + 1, none⟩ = some (.int .u64 a)
  c2 : w.cell? ⟨b, o + 2, none⟩ = some (.int .u64 to)
  c3 : w.cell? ⟨b, o + 3, none⟩ = some (.int .i64 k)
  c4 : w.cell? ⟨b, o + 4, none⟩ = some (.int .u64 d)

theorem ActAt.fr {S : Nat → Prop} {w w' : World} {b o : Nat} {n a to k d : Int} (h : ActAt w b o n a to k d) (hf : Fr S w w') (hS : ¬ S b) : ActAt w' b o n a to k d := by
  have e := hf.same b (World.block_lt_of_cell? _ _ h.c0) hS
  have g : ∀ i v, w.cell? ⟨b, i, none⟩ = some v → w'.cell? ⟨b, i, none⟩ = some v := fun i v hv => (World.cell?_of_block (w := w) (w' := w') (a := ⟨b, i, none⟩) e).trans hv
  exact ⟨g _ _ h.c0, g _ _ h.c1, g _ _ h.c2, g _ _ h.c3, g _ _ h.c4⟩

/-- a row of acts -/
def Acts (w : World) (v : Value) (n : Nat) : Prop := ∃ ad c, v = .slice ad n c ∧ ∀ i, i < n → ∃ b o x a to k d, ad = some ⟨b, o, none⟩ ∧ ActAt w b (o + i * 5) x a to k d

theorem acts_mk {w : World} {ad : Option Addr} {b o i : Nat} {x a to k d : Int} (c0 : w.cell? ⟨b, o + i * 5, none⟩ = some (.int .i64 x)) (c1 : w.cell? ⟨b, o + i * 5 + 1, none⟩ = some (.int .u64 a)) (c2 : w.cell? ⟨b, o + i * 5 + 2, none⟩ = some (.int .u64 to))
    (c3 : w.cell? ⟨b, o + i * 5 + 3, none⟩ = some (.int .i64 k)) (c4 : w.cell? ⟨b, o + i * 5 + 4, none⟩ = some (.int .u64 d)) (_ : (Lit.int .i64 x).wf = true) (_ : (Lit.int .u64 a).wf = true) (_ : (Lit.int .u64 to).wf = true) (_ : (Lit.int .i64 k).wf = true) (_ : (Lit.int .u64 d).wf = true)
    (h : ad = some ⟨b, o, none⟩ := by rfl) : ∃ b o x a to k d, ad = some ⟨b, o, none⟩ ∧ ActAt w b (o + i * 5) x a to k d := ⟨b, o, x, a, to, k, d, h, c0, c1, c2, c3, c4⟩

/-- the records and the reference, made by the call itself -/
structure Play (B : Nat) (s r : Nat) (l : List Rec) (w0 w : World) : Prop where
  pair : Pair w s r l
  fp : ∀ b, Sp.fp s l b → B ≤ b
  r : B ≤ r
  fr : Fr (fun b => B ≤ b) w0 w

theorem Play.act {B s r : Nat} {l l' : List Rec} {w0 w w' : World} (h : Play B s r l w0 w) (hB : B ≤ w.heap.size) (hp : Pair w' s r l') (hn : ∀ b, Sp.fp s l' b → Sp.fp s l b ∨ w.heap.size ≤ b)
    (hf : Fr (fun b => Sp.fp s l b ∨ b = r) w w') : Play B s r l' w0 w' :=
  ⟨hp, fun b hb => by rcases hn b hb with h1 | h1; exact h.fp b h1; omega, h.r, h.fr.trans hf (fun b _ hb => by rcases hb with h1 | h1; exact h.fp b h1; rw [h1]; exact h.r)⟩

/-- what the next act of the row finds, and leaves -/
def Acted (B s r b o : Nat) (x a to k d : Int) (l : List Rec) (w0 : World) (e : Ending) (w' : World) : Prop :=
  e = .returned (.bool true) ∧ ∃ l' ar cr, Hid (Play B s r l' w0 w' ∧ l'.length ≤ l.length + 1) ∧ ActAt w' b o x a to k d ∧ w'.cell? ⟨r, 0, none⟩ = some (.slice ar l'.length cr) ∧
    Hid (Calls Try.prog 13 #[.pointer (some ⟨s, 0, none⟩)] w' fun e w'' => e = .returned (.int .i64 l'.length) ∧ w' = w'')

theorem acted {B s r b o : Nat} {x a to k d : Int} {l : List Rec} {w0 w : World} (h : Play B s r l w0 w) (hB : B ≤ w.heap.size) (hb : b < B) (hact : ActAt w b o x a to k d) (hn : l.length ≤ 1000000) :
    Calls Try.prog 12 #[.pointer (some ⟨s, 0, none⟩), .pointer (some ⟨r, 0, none⟩), .agg #[.int .i64 x, .int .u64 a, .int .u64 to, .int .i64 k, .int .u64 d]] w (Acted B s r b o x a to k d l w0) := by
  refine (act_any x a to k d w h.pair hn).mono fun e w' ⟨he, l', hp, hl, hnew, hf, _⟩ => ?_
  have hplay := h.act hB hp hnew hf
  obtain ⟨ar, cr, h1, _⟩ := hp.rf
  refine ⟨he, l', ar, cr, Lib.hid ⟨hplay, hl⟩, hact.fr hf ?_, cell_blk h1.root 0, Lib.hid (Sp.count_any w' hp.sp)⟩
  rintro (h2 | h2)
  · have := h.fp b h2; omega
  · have := h.r; omega

theorem Play.none {B s r : Nat} {l : List Rec} {w0 w w' : World} (h : Play B s r l w0 w) (hf : Fr (fun _ => False) w w') : Play B s r l w0 w' :=
  ⟨h.pair.none hf, h.fp, h.r, h.fr.trans hf (fun _ _ => False.elim)⟩

/-- new records and a new reference -/
theorem pair_new {w1 : World} {s : Nat} (h : Sp.Is w1 s []) (hs : ∀ b, Sp.fp s [] b → b < w1.heap.size) :
    Pair (w1.alloc (.cells #[.slice none 0 0] 36)) s w1.heap.size [] :=
  ⟨Sp.nodes_keep h ((Fr.refl _ w1).alloc _), ⟨none, 0, ⟨by rw [heap_alloc, if_pos rfl]; rfl, World.ownsRow_nil _ _ _ _, by simp [Value.ownBlock]⟩, by simp [Value.ownBlock]⟩, fun h => by have := hs _ h; omega, Ok.nil⟩

/-- all of them at the end -/
theorem final (m : Int) {B s r : Nat} {l : List Rec} {w0 w : World} (h : Play B s r l w0 w) (hn : l.length ≤ 1000000) :
    ∃ T : List Rec, T.length ≤ 1000000 ∧ Hid (Calls Try.prog 9 #[.pointer (some ⟨s, 0, none⟩), .int .u64 0, .int .u64 m] w (RetRow 49 3 T.length (cells3 T) w)) ∧
      ∀ W, Fr (fun _ => False) w W → Hid (Calls Try.prog 14 #[.pointer (some ⟨r, 0, none⟩), .int .u64 0, .int .u64 m] W (RetRow 49 3 T.length (cells3 T) W)) := by
  have hp := h.pair
  have hsp := Sp.split l 0 0
  have hx := Sp.split_lt l 0 0
  have hy := Sp.split_head l 0 0
  generalize l.takeWhile (lt 0 0) = xs at hsp hx
  generalize l.dropWhile (lt 0 0) = ys at hsp hy
  refine ⟨ys.takeWhile (fun r => decide (r.a < m)), ?_, Lib.hid (Sp.between_any 0 m w hp.sp hsp (Sp.place_of (s := s) hsp hx hy) (by omega)), fun W hf => ?_⟩
  · rw [← hp.ok.between hsp hx hy]
    exact Nat.le_trans (List.length_filter_le _ _) hn
  · obtain ⟨a', c', h1, _⟩ := (hp.none hf).rf
    have := Rf.between_any 0 m W h1 (by omega)
    rw [hp.ok.between hsp hx hy] at this
    exact Lib.hid this

def Law (w : World) (e : Ending) (w' : World) : Prop := e = .returned (.bool true) ∧ Fr (fun _ => False) w w'

set_option maxHeartbeats 4000000 in
theorem play_any (v : Value) (n : Nat) (w : World) (h : Acts w v n) (hn : n ≤ 9223372036854775807) : Calls Try.prog 4 #[v] w (Law w) := by
  obtain ⟨ad, c, rfl, hacts⟩ := h
  by_cases hm : 300 < n
  · clear hacts
    go_enter Try.func4, Try.ntmps4
    go_wp2
    go_ret
    exact ⟨rfl, Fr.refl _ _⟩
  · replace hacts := Lib.hid hacts
    go_enter Try.func4, Try.ntmps4
    go_wp2_with fail
    refine (Sp.new_any w).mono ?_
    rintro e w1 ⟨rfl, h1, f1⟩
    have hp := Lib.hid (pair_new h1 (by rintro b (rfl | ⟨r, hr, _⟩); exact h1.lt.1; simp at hr))
    have f2 := Lib.hid (f1.alloc (.cells #[.slice none 0 0] 36))
    have hsz := Lib.hid (show w.heap.size < w1.heap.size from h1.lt.1)
    clear h1 f1
    go_wp2_with fail
    go_loopg [5] n (fun k i wr => ∃ (j : Nat) (l : List Rec), i = .int .i64 j ∧ j + k = n ∧ l.length ≤ j ∧ Play w.heap.size w.heap.size w1.heap.size l w wr)
    case atStart =>
      refine ⟨0, [], rfl, by simp, by simp, hp.out, ?_, Nat.le_of_lt hsz.out, f2.out.mono (fun _ _ => False.elim)⟩
      rintro b (rfl | ⟨r, hr, _⟩)
      · exact Nat.le_refl _
      · simp at hr
    case round =>
      obtain ⟨j, l, rfl, hj, hlj, hplay⟩ := hrel
      by_cases hlt : j < n
      · obtain ⟨b, o, x, a, to, k, d, rfl, hact⟩ := hacts.out j hlt
        have hact' := hact.fr hplay.fr (by have := World.block_lt_of_cell? _ _ hact.c0; simp at this; omega)
        have hB := Nat.le_trans hplay.fr.size (show wr.heap.size ≤ wr.drew.heap.size by simp)
        have hcall := Lib.hid (acted (hplay.none (Fr.refl _ wr).drew) hB (by have := World.block_lt_of_cell? _ _ hact.c0; simpa using this) (hact'.fr (Fr.refl (fun _ => False) wr).drew (fun x => x)) (by omega))
        obtain ⟨c0, c1, c2, c3, c4⟩ := hact'
        have A := Lib.hid (And.intro hj hlj)
        clear hj hlj hplay hact hB
        go_wp2_with fail
        go_region_with ((first | (go_at_call 12; refine hcall.out.mono ?_; rintro e w2 ⟨rfl, l2, ar, cr, hp2, ⟨d0, d1, d2, d3, d4⟩, hr2, hc2⟩) | (go_at_call 13; refine hc2.out.mono ?_; rintro e w' ⟨rfl, rfl⟩)))
        all_goals go_wp2
        all_goals go_roundg (gk - 1)
        case measure => have := A.out; omega
        case rel => have := A.out; have := hp2.out.2; exact ⟨j + 1, l2, by go_num, by omega, by omega, hp2.out.1⟩
        case measure => have := A.out; omega
        case rel => have := A.out; have := hp2.out.2; exact ⟨j + 1, l2, by go_num, by omega, by omega, hp2.out.1⟩
      · have f0 := Lib.hid (show Fr (fun _ => False) w wr from hplay.fr.mono (fun b hb h => by omega))
        have fin := Lib.hid (final 18446744073709551615 hplay (by omega))
        clear hj hlj hplay
        go_wp2_with fail
        obtain ⟨T, hT, c1, c2⟩ := fin.out
        refine c1.out.mono ?_
        rintro e w2 ⟨va, vc, rfl, ho1, f1⟩
        go_wp2_with fail
        refine (c2 w2 f1).out.mono ?_
        rintro e w3 ⟨va', vc', rfl, ho2, f2⟩
        have hs := Lib.hid (Rf.same_true w3 rfl (by omega) (ownsRow_fr ho1 f2 (fun _ => False.elim)) ho2)
        have hF := Lib.hid (f0.out.trans (f1.trans f2 (fun _ _ x => x)) (fun _ _ x => x))
        clear ho1 ho2 f1 f2 c1 c2 fin f0 hT
        go_wp2_with fail
        refine hs.out.mono ?_
        rintro e w4 ⟨rfl, m, hm⟩
        have hF2 : Hid (Fr (fun _ => False) w w4) := by rw [hm]; exact Lib.hid (hF.out.drewN m)
        clear hm hs hF
        go_wp2_with fail
        have ha := Lib.hid (awake_any w4)
        refine ha.out.mono ?_
        rintro e w5 ⟨rfl, f5⟩
        have hF3 := Lib.hid (hF2.out.trans f5 (fun _ _ x => x))
        clear f5 ha hF2
        go_wp2
        go_ret
        exact ⟨rfl, hF3.out⟩

theorem play_said (w : World) (v : Value) (n : Nat) (h : Acts w v n) (hn : n ≤ 9223372036854775807) : Calls Try.prog 4 #[v] w (Law w) := play_any v n w h hn
end Go.Proofs.Ytheadhficajhmaa
