/-
  SpecialsOnce: the walk.
-/
import Derived.Test.YtheadhficajhmaaLex
import Derived.Deep.CutBlock
import Derived.Deep.DeepCutAuto
namespace Go.Proofs.Ytheadhficajhmaa
open Go.RowKit Go.Deep
open Sp (cells3 cell3 lt isHd Ok)

def top : Int := 18446744073709551615

theorem om_new {w w1 : World} (h1 : Sp.Is w1 w.heap.size []) (f1 : Fr (fun _ => False) w w1) : Om w.heap.size w.heap.size w1.heap.size [] [] w (w1.alloc (.map #[] 0)) := by
  have hlt := h1.lt.1
  have ho : Own w.heap.size w.heap.size [] w w1 := ⟨h1, Ok.nil, fun b hb => by have := fp_nil hb; omega, f1.mono (fun _ _ => False.elim)⟩
  exact ⟨ho.none ((Fr.refl _ w1).alloc _), MapIs.new ekey (by rw [heap_alloc, if_pos rfl]), by omega, fun hb => by have := fp_nil hb; omega⟩

/-- what loop 1 keeps -/
def Kept (w0 : World) (s mb j : Nat) (wr : World) : Prop := ∃ l m, l.length ≤ j ∧ Om w0.heap.size s mb l m w0 wr ∧ Met top l m

theorem key_laid {w : World} (a k : Int) : (w.alloc (.cells #[.int .u64 a, .int .i64 k] 47)).drew.cell? ⟨w.heap.size, 0, none⟩ = some (.int .u64 a) ∧ (w.alloc (.cells #[.int .u64 a, .int .i64 k] 47)).drew.cell? ⟨w.heap.size, 1, none⟩ = some (.int .i64 k) :=
  blk2 (by show (w.alloc _).heap[_]? = _; rw [heap_alloc, if_pos rfl])

theorem cell_through {S : Nat → Prop} {w w' : World} {b i : Nat} {v : Value} (hf : Fr S w w') (h : w.cell? ⟨b, i, none⟩ = some v) (hs : ¬ S b) : w'.cell? ⟨b, i, none⟩ = some v := by
  have hlt := World.block_lt_of_cell? _ _ h
  rw [World.cell?_of_block (w := w) (hf.same b hlt hs)]; exact h

def Added3 (M : Int) (B s mb : Nat) (l : List Rec) (m : List ((Int × Int) × Value)) (a k : Int) (b i b' i' kb : Nat) (w0 : World) (e : Ending) (w' : World) : Prop :=
  ∃ (c : Int) (l' : List Rec), e = .returned (.int .i64 c) ∧ w'.cell? ⟨b, i, none⟩ = some (.int .u64 a) ∧ w'.cell? ⟨b', i', none⟩ = some (.int .i64 k) ∧
    Hid ((w'.cell? ⟨kb, 0, none⟩ = some (.int .u64 a) ∧ w'.cell? ⟨kb, 1, none⟩ = some (.int .i64 k)) ∧ Om B s mb l' m w0 w' ∧ l'.length ≤ l.length + 1 ∧
    (((k < 1 ∨ 3 < k) ∧ c = 1 ∧ Met M l' m) ∨ ((1 ≤ k ∧ k ≤ 3) ∧ (mapGet m (a, k)).getD (.bool false) = .bool true ∧ c = 34 ∧ Met M l' m) ∨
     ((1 ≤ k ∧ k ≤ 3) ∧ (mapGet m (a, k)).getD (.bool false) = .bool false ∧ c = 0 ∧ Met M l' (mapSet m (a, k) (.bool true)))))

theorem added3 {M : Int} {B s mb b i b' i' kb : Nat} {l : List Rec} {m : List ((Int × Int) × Value)} {w0 w : World} (h : Om B s mb l m w0 w) (hm : Met M l m) (hB : B ≤ w.heap.size) (a k d : Int) (ha : 0 ≤ a ∧ a ≤ M) (hn : l.length ≤ 1000000)
    (e1 : w.cell? ⟨b, i, none⟩ = some (.int .u64 a)) (e2 : w.cell? ⟨b', i', none⟩ = some (.int .i64 k)) (k1 : w.cell? ⟨kb, 0, none⟩ = some (.int .u64 a)) (k2 : w.cell? ⟨kb, 1, none⟩ = some (.int .i64 k))
    (hb : ¬ Sp.fp s l b) (hb' : ¬ Sp.fp s l b') (hkb : ¬ Sp.fp s l kb) :
    Calls Try.prog 8 #[.pointer (some ⟨s, 0, none⟩), .int .u64 a, .int .i64 k, .int .u64 d] w (Added3 M B s mb l m a k b i b' i' kb w0) :=
  (added2 h hm hB a k d ha hn).mono fun _ _ ⟨c, l', he, ho, hf, hl, hc⟩ =>
    ⟨c, l', he, cell_through hf e1 hb, cell_through hf e2 hb', Lib.hid ⟨⟨cell_through hf k1 hkb, cell_through hf k2 hkb⟩, ho, hl, hc⟩⟩

theorem Om.set {B s mb : Nat} {l : List Rec} {m m' : List ((Int × Int) × Value)} {w0 w w' : World} (h : Om B s mb l m w0 w) (hm : MapIs ekey w' mb m') (hf : Fr (fun b => b = mb) w w') : Om B s mb l m' w0 w' :=
  ⟨⟨Sp.keep h.own.sp hf (fun b hb he => h.mf (he ▸ hb)), h.own.ok, h.own.fp, h.own.fr.trans hf (fun b _ hb => by rw [hb]; exact h.mB)⟩, hm, h.mB, h.mf⟩

theorem row_box {w w2 : World} {T n s : Nat} {v : Value} {xs : List Value} {l : List Rec} (h : w2.ownsRow w.heap.size T 3 v n xs) (hc : ∀ b, Sp.fp s l b → b < w.heap.size) : ∃ C, w2.ownsRow C T 3 v n xs ∧ ∀ b, Sp.fp s l b → b < C := ⟨_, h, hc⟩

theorem fp_below {B s : Nat} {l : List Rec} {w0 w : World} (h : Own B s l w0 w) : ∀ b, Sp.fp s l b → b < w.heap.size := Sp.fp_lt h.sp

set_option maxRecDepth 100000 in
set_option maxHeartbeats 8000000 in
theorem once_any (w : World) (v u : Value) (zs ks : List Int) (h : Ints w .u64 v zs) (h' : Ints w .i64 u ks) : Calls Try.prog 6 #[v, u] w (Law w) := by
  obtain ⟨ad, c, rfl, hl, hm, hcell, hwf⟩ := h
  obtain ⟨ad', c', rfl, hl', hm', hcell', hwf'⟩ := h'
  by_cases h100 : 100 < zs.length
  · clear hcell hwf hcell' hwf'
    simp only [maxLen] at hm
    go_enter Try.func6, Try.ntmps6
    go_wp2
    go_ret
    exact ⟨rfl, Fr.refl _ _⟩
  by_cases h200 : 100 < ks.length
  · clear hcell hwf hcell' hwf'
    simp only [maxLen] at hm hm'
    go_enter Try.func6, Try.ntmps6
    go_wp2
    go_ret
    exact ⟨rfl, Fr.refl _ _⟩
  replace hcell := Lib.hid hcell
  replace hwf := Lib.hid hwf
  replace hcell' := Lib.hid hcell'
  clear hwf'
  go_enter Try.func6, Try.ntmps6
  go_wp2_with fail
  refine (Sp.new_any w).mono ?_
  rintro e w1 ⟨rfl, h1, f1⟩
  have ho := Lib.hid (om_new h1 f1)
  clear h1 f1
  go_upto_block 0 with (refine wpList_make_map (by rfl) _ (by rfl) ?_)
  go_cut [7, 8, 9, 10] (fun i7 i8 i9 i10 wx => ∃ j, j ≤ 100 ∧ Kept w w.heap.size w1.heap.size j wx)
  case first =>
    go_wp2_with fail
    go_loopg [7] zs.length (fun k i wr => ∃ (j : Nat), i = .int .i64 j ∧ j + k = zs.length ∧ Kept w w.heap.size w1.heap.size j wr)
    case atStart => exact ⟨0, rfl, by simp, [], [], by simp, ho.out, Met.nil _⟩
    case round =>
      obtain ⟨j, rfl, hj, l, m, hlj, hom, hmet⟩ := hrel
      clear ho
      by_cases hlt : j < zs.length ∧ j < ks.length
      · obtain ⟨hlt1, hlt2⟩ := hlt
        obtain ⟨z, hz⟩ : ∃ z, zs[j]? = some z := ⟨_, List.getElem?_eq_getElem hlt1⟩
        obtain ⟨kk, hkk⟩ : ∃ z, ks[j]? = some z := ⟨_, List.getElem?_eq_getElem hlt2⟩
        obtain ⟨b, o, rfl, hcz⟩ := hcell.out j z hz
        obtain ⟨b', o', rfl, hck⟩ := hcell'.out j kk hkk
        have hz0 := Go.bounds_u64 (hwf.out _ (List.mem_of_getElem? hz))
        have fr := hom.own.fr
        have e1 : wr.cell? ⟨b, o + j, none⟩ = some (.int .u64 z) := by
          rw [World.cell?_of_block (w := w) (fr.same b (World.block_lt_of_cell? _ _ hcz) (by have := World.block_lt_of_cell? _ _ hcz; simp at this; omega))]; exact hcz
        have e2 : wr.cell? ⟨b', o' + j, none⟩ = some (.int .i64 kk) := by
          rw [World.cell?_of_block (w := w) (fr.same b' (World.block_lt_of_cell? _ _ hck) (by have := World.block_lt_of_cell? _ _ hck; simp at this; omega))]; exact hck
        have hB := fr.size
        have hb1 := World.block_lt_of_cell? _ _ hcz
        have hb2 := World.block_lt_of_cell? _ _ hck
        simp only at hb1 hb2
        have hb3 : b < wr.heap.size := by omega
        have hb4 : b' < wr.heap.size := by omega
        have A := Lib.hid (And.intro hj (And.intro hlj (And.intro hom (And.intro hmet (And.intro hB hz0)))))
        clear hj hlj hom hmet hz hkk hcz hck fr hB hz0
        go_wp2_with fail
        go_region
        have kc := Lib.hid (key_laid (w := wr) z kk)
        have e1' : (wr.alloc (.cells #[.int .u64 z, .int .i64 kk] 47)).drew.cell? ⟨b, o + j, none⟩ = some (.int .u64 z) := by go_keep
        have e2' : (wr.alloc (.cells #[.int .u64 z, .int .i64 kk] 47)).drew.cell? ⟨b', o' + j, none⟩ = some (.int .i64 kk) := by go_keep
        have hom1 := Lib.hid (A.out.2.2.1.none ((Fr.refl _ wr).alloc (.cells #[.int .u64 z, .int .i64 kk] 47)).drew)
        have hsz : (wr.alloc (.cells #[.int .u64 z, .int .i64 kk] 47)).drew.heap.size = wr.heap.size + 1 := by simp
        clear e1 e2
        generalize (wr.alloc (.cells #[.int .u64 z, .int .i64 kk] 47)).drew = wk at *
        have hadd := Lib.hid (added3 (w := wk.drew) (hom1.out.none (Fr.refl _ wk).drew) A.out.2.2.2.1 (by have := A.out.2.2.2.2.1; show w.heap.size ≤ wk.heap.size; omega) z kk (IntKind.u64.wrap j) A.out.2.2.2.2.2 (by have := A.out.2.1; omega) e1' e2' kc.out.1 kc.out.2 (fun hb => by have := A.out.2.2.1.own.fp _ hb; omega) (fun hb => by have := A.out.2.2.1.own.fp _ hb; omega) (fun hb => by have := Sp.fp_lt A.out.2.2.1.own.sp _ hb; omega))
        clear hom1 hb1 hb2 hsz kc
        go_wp2_with fail
        go_region_held3 (fun w' => w'.cell? ⟨b, o + j, none⟩ = some (.int .u64 z) ∧ w'.cell? ⟨b', o' + j, none⟩ = some (.int .i64 kk)) (go_keep) ((go_at_call 8; refine hadd.out.mono ?_; rintro e w2 ⟨c2, l2, rfl, f1, f2, hO⟩))
        obtain ⟨⟨kc1, kc2⟩, hO2, hl2, hcase⟩ := hO.out
        have O2 := Lib.hid (And.intro hO2 hl2)
        clear hO2 hl2 hO f1 f2 hadd e1' e2'
        rcases hcase with ⟨hk, rfl, hm2⟩ | ⟨hk, hg, rfl, hm2⟩ | ⟨hk, hg, rfl, hm2⟩
        · have M2 := Lib.hid hm2
          clear hm2
          by_cases hk1 : kk < 1
          · clear hk
            go_wp2
            go_roundg (gk - 1)
            case measure => have := A.out; omega
            case rel => have := A.out; have := O2.out.2; exact ⟨j + 1, by go_num, by omega, l2, m, by omega, O2.out.1, M2.out⟩
          · have hk3 : 3 < kk := by omega
            clear hk
            go_wp2
            go_roundg (gk - 1)
            case measure => have := A.out; omega
            case rel => have := A.out; have := O2.out.2; exact ⟨j + 1, by go_num, by omega, l2, m, by omega, O2.out.1, M2.out⟩
        · have M2 := Lib.hid hm2
          have G := Lib.hid hg
          have hk1 : ¬ kk < 1 := by omega
          have hk3 : ¬ 3 < kk := by omega
          clear hm2 hg hk
          go_wp2_with (refine wpList_look (by rfl) _ _ (by rfl) O2.out.1.map z kk true G.out (by rfl) (by rfl) ?_)
          go_roundg (gk - 1)
          case measure => have := A.out; omega
          case rel => have := A.out; have := O2.out.2; exact ⟨j + 1, by go_num, by omega, l2, m, by omega, O2.out.1, M2.out⟩
        · have M2 := Lib.hid hm2
          have G := Lib.hid hg
          have hk1 : ¬ kk < 1 := by omega
          have hk3 : ¬ 3 < kk := by omega
          clear hm2 hg hk
          go_wp2_with (first | (refine wpList_look (by rfl) _ _ (by rfl) O2.out.1.map z kk false G.out (by rfl) (by rfl) ?_) | (refine wpList_map_set (by rfl) keyLaw_key Try.underlying45 _ _ _ (by rfl) O2.out.1.map (z, kk) (.bool true) (by rfl) (by rfl) (by rfl) ?_; intro w3 hm3 hf3; have O3 := Lib.hid (O2.out.1.set hm3 hf3); clear hm3 hf3))
          go_roundg (gk - 1)
          case measure => have := A.out; omega
          case rel => have := A.out; have := O2.out.2; exact ⟨j + 1, by go_num, by omega, l2, _, by omega, O3.out, M2.out⟩
      · have K := Lib.hid (show ∃ j, j ≤ 100 ∧ Kept w w.heap.size w1.heap.size j wr from ⟨j, by omega, l, m, hlj, hom, hmet⟩)
        have hcase : j = zs.length ∨ (j < zs.length ∧ ks.length ≤ j) := by omega
        clear hlt hj hlj hom hmet
        rcases hcase with hj | ⟨hj1, hj2⟩
        all_goals (
          go_wp2_with fail
          go_meet
          exact K.out)
  case rest =>
    obtain ⟨j, hj, l, m, hlj, hom, hmet⟩ := hcut
    have hln : l.length ≤ 1000000 := by omega
    have H := Lib.hid (And.intro hom hmet)
    have hb1 := Lib.hid (between hom.own 0 18446744073709551615 hln)
    clear hj hlj hom hmet ho
    go_wp2_with fail
    refine hb1.out.mono ?_
    rintro e w2 ⟨va, vc, rfl, o1, g1⟩
    have TD : Hid (Told 18446744073709551615 l m (betw l 0 18446744073709551615)) := Lib.hid (told H.out.2 H.out.1.own.ok H.out.1.map.nodup)
    have hB2 := H.out.1.own.fr.size
    have RD := Lib.hid (And.intro (ownsRow_rd o1) (row_box o1 (fun b hb => Sp.fp_lt H.out.1.own.sp b hb)))
    have ML := Lib.hid H.out.2.len
    have H2 := Lib.hid (And.intro (H.out.1.none g1) True.intro)
    have hTl := TD.out.len
    clear hb1 o1 g1 H
    generalize betw l 0 18446744073709551615 = T at *
    go_upto_block 2 with fail
    go_cut [12, 13] (fun i12 i13 wx => i12 = .int .i64 T.length ∧ Hid (MapIs ekey wx w1.heap.size m ∧ Fr (fun _ => False) w2 wx))
    case first =>
      go_wp2_with fail
      go_loopg [12, 13] T.length (fun k n i wr => ∃ (j' nn : Nat), n = .int .i64 j' ∧ i = .int .i64 j' ∧ j' + k = T.length ∧ wr = w2.drewN nn)
      case atStart => exact ⟨0, 0, rfl, rfl, by simp, rfl⟩
      case round =>
        obtain ⟨i, nn, rfl, rfl, hi, rfl⟩ := hrel
        by_cases hlt : i < T.length
        · obtain ⟨q, hq⟩ : ∃ q, T[i]? = some q := ⟨_, List.getElem?_eq_getElem hlt⟩
          obtain ⟨g, o, rfl, c0, c1, c2⟩ := Rf.rd_cells RD.out.1 hq
          have look := fun n => run_look H2.out.1.map (TD.out.get i q hq) (w2.drewN n) rfl
          by_cases hi0 : i = 0
          · subst hi0
            have HI := Lib.hid hi
            clear hi hq c2
            simp only [Nat.zero_mul, Nat.add_zero] at c0 c1
            go_wp2
            refine wp_region_quiet_lit (by kernel_rfl) lex26 ?_
            repeat (go_big_quiet_step (fail))
            refine wpQuiet_nil ?_
            intro _ hw'
            obtain ⟨nq, hw''⟩ := hw'
            subst hw''
            go_wp2
            go_roundg (gk - 1)
            case measure => have := HI.out; omega
            case rel => have := HI.out; exact ⟨1, nn + nq, by go_num, by go_num, by omega, rfl⟩
          · obtain ⟨i0, hii⟩ : ∃ i0, i0 + 1 = i := ⟨i - 1, by omega⟩
            obtain ⟨p, hp⟩ : ∃ q, T[i0]? = some q := ⟨_, List.getElem?_eq_getElem (by omega)⟩
            obtain ⟨g', o', hgo, d0, d1, d2⟩ := Rf.rd_cells RD.out.1 hp
            simp only [Option.some.injEq, Addr.mk.injEq] at hgo
            obtain ⟨rfl, rfl, _⟩ := hgo
            have hpq := TD.out.pair hp (hii ▸ hq)
            have hsub : (i : Int) - 1 = (i0 : Int) := by omega
            have hlt0 : i0 < T.length := by omega
            have hpos : 0 < i := by omega
            have hpos2 : decide (0 < (i : Int)) = true := by simp; omega
            have hpos3 : decide (0 < i) = true := by simp; omega
            have HI := Lib.hid (And.intro hi hii)
            clear hi hq hp c2 d2 hii hi0
            rcases hpq with hpq | ⟨hpq, hpk⟩
            · have n1 : ¬ q.a < p.a := by omega
              have n2 : ¬ q.a = p.a := by omega
              have n1b : decide (q.a < p.a) = false := decide_eq_false n1
              have n2b : (q.a == p.a) = false := by simpa using n2
              clear hpq
              go_wp2
              refine wp_region_quiet_lit (by kernel_rfl) lex26 ?_
              repeat (go_big_quiet_step (fail))
              refine wpQuiet_nil ?_
              intro _ hw'
              obtain ⟨nq, hw''⟩ := hw'
              subst hw''
              clear hsub
              go_wp2
              go_roundg (gk - 1)
              case measure => have := HI.out; omega
              case rel => have := HI.out; exact ⟨i + 1, nn + nq, by go_num, by go_num, by omega, rfl⟩
            · have n3 : ¬ q.k ≤ p.k := by omega
              have n3b : decide (q.k ≤ p.k) = false := decide_eq_false n3
              obtain ⟨qb, qa, qk, qd⟩ := q
              obtain ⟨pb, pa, pk, pd⟩ := p
              simp only at hpq n3 n3b c0 c1 d0 d1 look
              subst hpq
              clear hpk
              go_wp2
              refine wp_region_quiet_lit (by kernel_rfl) lex26 ?_
              repeat (go_big_quiet_step (fail))
              refine wpQuiet_nil ?_
              intro _ hw'
              obtain ⟨nq, hw''⟩ := hw'
              subst hw''
              clear hsub
              go_wp2
              go_roundg (gk - 1)
              case measure => have := HI.out; omega
              case rel => have := HI.out; exact ⟨i + 1, nn + nq, by go_num, by go_num, by omega, rfl⟩
        · have R := Lib.hid (And.intro (H2.out.1.map.drewN nn) (Fr.of_drewN (fun _ => False) w2 nn))
          have hlt' : i = T.length := by omega
          subst hlt'
          clear hi hlt
          go_wp2_with fail
          go_meet
          exact ⟨rfl, R⟩
    case rest =>
      obtain ⟨rfl, hR⟩ := hcut
      have hsz := hR.out.2.size
      have hbt := H2.out.1.map.lt
      have hne : wc.heap.size ≠ w1.heap.size := by omega
      clear hsz hbt hTl
      go_wp2_with (refine wpList_iter_new (by rfl) Try.underlying45 _ (by rfl) hR.out.1 (by rfl) ?_; intro oo hit; go_simp)
      go_loopg [12] m.length (fun k n wr => ∃ (D : List (Int × Int)) (c : Int), n = .int .i64 c ∧ Hid (c = T.length + (D.filter (fun p => p.1 == 18446744073709551615)).length ∧ D.length + k = m.length ∧ D.Nodup ∧ (∀ p ∈ D, p ∈ m.map (·.1)) ∧ Iter ekey wr wc.heap.size w1.heap.size m D ∧ Fr (fun _ => False) w2 wr))
      case atStart => exact ⟨[], _, rfl, Lib.hid ⟨by simp, by simp, by simp, by simp, hit, hR.out.2.trans ((Fr.refl _ wc).alloc oo) (fun _ _ x => x)⟩⟩
      case round =>
        obtain ⟨D, cc, rfl, hD⟩ := hrel
        clear hit
        rcases run_iter_next (P := Try.prog) hD.out.2.2.2.2.1 hne 0 with ⟨hall, hr⟩ | ⟨⟨⟨pa, pk⟩, pv⟩, hp, hpd, wn, hr, hk1, hk2, hk3⟩
        · have hc : cc = (m.length : Int) := by have := TD.out.cnt D hD.out.2.2.1 hD.out.2.2.2.1 (fun p hp => hall p hp); rw [hD.out.1]; omega
          subst hc
          have O4 := Lib.hid (H2.out.1.none hD.out.2.2.2.2.2)
          have hcount : Hid (Calls Try.prog 13 #[.pointer (some ⟨w.heap.size, 0, none⟩)] wr (fun e w' => e = .returned (.int .i64 m.length) ∧ wr = w')) := Lib.hid (by have := Sp.count_any wr O4.out.own.sp; rw [ML.out]; exact this)
          have hmlen := run_map_len Try.underlying45 O4.out.map 3
          obtain ⟨C, hC1, hC2⟩ := RD.out.2
          have hCl := Lib.hid hC2
          have hrow := Lib.hid (ownsRow_fr hC1 hD.out.2.2.2.2.2 (fun _ => False.elim))
          clear hall hD hC1 hC2
          go_wp2_with (first | (refine wpList_next_run (by rfl) _ (by rfl) (by rfl) hr ?_; clear hr) | (go_at_call 13; refine hcount.out.mono ?_; rintro e w' ⟨rfl, rfl⟩))
          go_loopg [15] T.length (fun k i wr => ∃ (j : Nat), i = .int .i64 j ∧ Hid (j + k = T.length ∧ Own w.heap.size w.heap.size (left l ((T.take j).map (·.a))) w wr ∧ wr.ownsRow C 49 3 (.slice va T.length vc) T.length (cells3 T) ∧ ∀ b, Sp.fp w.heap.size (left l ((T.take j).map (·.a))) b → b < C))
          case atStart => exact ⟨0, rfl, Lib.hid ⟨by simp, by simpa [left_nil] using O4.out.own, hrow.out, by simpa [left_nil] using hCl.out⟩⟩
          case round =>
            obtain ⟨i, rfl, hI⟩ := hrel
            have hTl : T.length ≤ 1000000 := by have := TD.out.len; omega
            clear O4 hcount hmlen hrow
            by_cases hlt : i < T.length
            · obtain ⟨q, hq⟩ : ∃ q, T[i]? = some q := ⟨_, List.getElem?_eq_getElem hlt⟩
              obtain ⟨g, o, rfl, hCg, hcl⟩ := row_at hI.out.2.2.1 hq
              have hll := left_len l ((T.take i).map (·.a))
              have hsn := left_snoc l ((T.take i).map (·.a)) q.a
              have hno := left_none l ((T.take i).map (·.a) ++ [q.a]) q.a (by simp)
              have htk : (T.take i).map (·.a) ++ [q.a] = (T.take (i + 1)).map (·.a) := by
                rw [List.take_add_one, hq]; simp
              rw [htk] at hsn hno
              have htake := took4 (w := wr) hI.out.2.1 hI.out.2.2.1 hI.out.2.2.2 hcl hCg (by omega)
              rw [hsn] at htake
              have hzl := kinds_le hI.out.2.1.ok q.a
              have hof := fun (w4 : World) (h1 : Own w.heap.size w.heap.size (left l ((T.take (i + 1)).map (·.a))) w w4) h2 h3 h4 => of4 (w := w4) (C := C) (g := g) (o := o + i * 3) (va := some ⟨g, o, none⟩) (vc := vc) (n := T.length) (T := T) (a := q.a) h1 h2 h3 h4 (by have := left_len l ((T.take (i + 1)).map (·.a)); omega) hno
              generalize ((left l ((T.take i).map (·.a))).filter (fun r => r.a == q.a)).length = zl at htake hzl
              have hz3 : ¬ (3 : Int) < (zl : Int) := by omega
              have HT := Lib.hid htake
              have HO := Lib.hid hof
              clear htake hof hsn hno htk hll hq hzl hCg
              go_wp2_with (first | (go_at_call 15; refine HT.out.mono ?_; rintro e w4 ⟨ra, rc, rfl, hc4, h4⟩; clear hcl) | (go_at_call 16; refine (HO.out w4 h4.out.1 h4.out.2.1 h4.out.2.2 hc4).mono ?_; rintro e w5 ⟨ra5, rc5, rfl, hc5, h5⟩; clear hc4))
              go_roundg (gk - 1)
              case measure => have := hI.out.1; omega
              case rel => have := hI.out.1; exact ⟨i + 1, by go_num, Lib.hid ⟨by omega, h5.out.1, h5.out.2.1, h5.out.2.2⟩⟩
            · have hi : i = T.length := by have := hI.out.1; omega
              subst hi
              have hown := hI.out.2.1
              rw [List.take_length] at hown
              have hb := between hown 0 18446744073709551615 (by have := left_len l (T.map (·.a)); omega)
              rw [TD.out.gone] at hb
              have HB := Lib.hid hb
              have F6 := Lib.hid (show Fr (fun _ => False) w wr from hown.fr.mono (fun b hb h => by omega))
              clear hown hb hlt hI
              go_wp2_with (first | (go_at_call 9; refine HB.out.mono ?_; rintro e w7 ⟨va7, vc7, rfl, o7, g7⟩; have F7 := Lib.hid (F6.out.trans g7 (fun _ _ x => x)); clear o7 g7) | (go_at_call 11; refine (awake_any w7).mono ?_; rintro e w8 ⟨rfl, g8⟩))
              go_ret
              exact ⟨rfl, F7.out.trans g8 (fun _ _ hf => hf)⟩
        · have HN := Lib.hid (And.intro hp (And.intro hpd (And.intro hk1 hk2)))
          clear hp hpd hk1 hk2
          simp only [ekey] at hr hk3
          go_wp2_with (first | (refine wpList_next_run (by rfl) _ (by rfl) (by rfl) hr ?_; clear hr) | (refine wpList_entry (by rfl) _ (by rfl) (by rfl) hk3 ?_; clear hk3))
          all_goals (
            rename_i hpe
            have S := met_step (M := 18446744073709551615) H2.out.1.map.nodup hD.out.2.2.1 hD.out.2.2.2.1 HN.out.1 HN.out.2.1
            simp only [hpe, if_true, Bool.false_eq_true, if_false] at S
            replace S := Lib.hid S
            clear hpe
            go_roundg (gk - 1)
            case measure => have := hD.out.2.1; have := S.out.2.2.1; omega
            case rel =>
              have e1 := hD.out.1
              have e2 := hD.out.2.1
              have e3 := S.out.2.2.1
              have e4 := S.out.2.2.2
              have hl := hD.out.2.2.2.2.2.size
              have e5 := List.length_filter_le (fun p : Int × Int => p.1 == 18446744073709551615) D
              have e6 := TD.out.len
              have e7 := ML.out
              have hw : wrap64 (cc + 1) = cc + 1 := IntWalk.wrap64_in _ (by omega)
              exact ⟨(pa, pk) :: D, _, rfl, Lib.hid ⟨by rw [e4]; omega, by simp only [List.length_cons]; omega, S.out.1, S.out.2.1, HN.out.2.2.1.fr ((Fr.refl (fun _ => False) wn).alloc _) (fun x => x) (fun x => x), (hD.out.2.2.2.2.2.trans (HN.out.2.2.2) (fun b hb he => by have := hR.out.2.size; omega)).trans ((Fr.refl (fun _ => False) wn).alloc _) (fun _ _ x => x)⟩⟩)

theorem once_said (w : World) (v : Value) (zs : List Int) (h : Ints w .u64 v zs) (u : Value) (ks : List Int) (h' : Ints w .i64 u ks) : Calls Try.prog 6 #[v, u] w (Law w) :=
  once_any w v u zs ks h h'
end Go.Proofs.Ytheadhficajhmaa
