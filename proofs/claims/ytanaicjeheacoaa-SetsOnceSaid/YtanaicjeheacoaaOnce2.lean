/-
  SetsOnce: the walk.
-/
import Derived.Test.YtanaicjeheacoaaOnce
import Derived.Test.YtanaicjeheacoaaKinds
import Derived.Test.YtanaicjeheacoaaOpen
import Derived.Deep.RegionWith
import Derived.BigRegion
namespace Go.Proofs.Ytanaicjeheacoaa
open Go.RowKit Go.Deep

theorem om_new {w w1 : World} {s : Nat} (h : Now w s [] (fun _ => False) w1) : Om w.heap.size s w1.heap.size [] [] w (w1.alloc (.map #[] 0)) := by
  obtain ⟨F, h1, h2⟩ := h
  have hf : Fr (fun _ => False) w1 (w1.alloc (.map #[] 0)) := (Fr.refl _ w1).alloc _
  refine ⟨⟨F, h1.quiet hf, fun hb => by have := h1.lt _ hb; omega, fun b hb => (h2.new b hb).elim False.elim id⟩, MapIs.new _ (by rw [heap_alloc, if_pos rfl]), h2.fr.size, (h2.fr.trans hf (fun _ _ x => x)).mono (fun _ _ => False.elim), Nat.le_trans h2.fr.size hf.size⟩

/-- a row of integers, in a later world -/
theorem ints_at {w w' : World} {k : IntKind} {ad : Option Addr} {n c : Nat} {zs : List Int} {B : Nat} (h : Ints w k (.slice ad n c) zs) (hf : Fr (fun b => B ≤ b) w w') (hB : w.heap.size ≤ B) {i : Nat} {z : Int} (hi : zs[i]? = some z) :
    ∃ b o, ad = some ⟨b, o, none⟩ ∧ b < w.heap.size ∧ w'.cell? ⟨b, o + i, none⟩ = some (.int k z) ∧ w.cell? ⟨b, o + i, none⟩ = some (.int k z) := by
  obtain ⟨ad', c', hv, _, _, hc, _⟩ := h
  simp only [Value.slice.injEq] at hv
  obtain ⟨rfl, rfl, rfl⟩ := hv
  obtain ⟨b, o, rfl, hcell⟩ := hc i z hi
  have hlt : b < w.heap.size := World.block_lt_of_cell? _ _ hcell
  exact ⟨b, o, rfl, hlt, cell_through hf hcell (by omega), hcell⟩

theorem put_twice_om {B s mb j : Nat} {L : List It} {m : List (Int × Value)} {w0 w : World} {zs : List Int} {z : Int} (h : Om B s mb L m w0 w) (hL : L.length ≤ 1000000) (hz : ∃ x ∈ L, x.base = z) :
    Calls Try.prog 8 #[.pointer (some ⟨s, 0, none⟩), .int .i64 ((j : Int) + 1), .int .u64 z, .int .i64 7, .bool true, .bool false, .bool true] w fun e w' => e = .returned (.int .i64 34) ∧ Hid (Om B s mb L m w0 w') := by
  refine (om_put h _ z 7 true false true hL).mono fun e w' ⟨c, L', he, hh⟩ => ?_
  obtain ⟨ho, ⟨h1, _⟩ | ⟨_, _, rfl, rfl⟩ | ⟨_, _, h1, _⟩⟩ := hh.out
  · omega
  · exact ⟨he, Lib.hid ho⟩
  · obtain ⟨x, hx, he⟩ := hz; exact absurd he (h1 x hx)

theorem put_new_om {B s mb j : Nat} {L : List It} {m : List (Int × Value)} {w0 w : World} {zs : List Int} {z : Int} (h : Om B s mb L m w0 w) (hm : Met zs j (7, true, false, true) L m) (hj : zs[j]? = some z) (hL : L.length ≤ 1000000) (hz : ∀ x ∈ L, x.base ≠ z) :
    Calls Try.prog 8 #[.pointer (some ⟨s, 0, none⟩), .int .i64 ((j : Int) + 1), .int .u64 z, .int .i64 7, .bool true, .bool false, .bool true] w fun e w' => e = .returned (.int .i64 0) ∧ ∃ L', L'.length = L.length + 1 ∧ Hid (Om B s mb L' m w0 w' ∧ Met zs (j + 1) (7, true, false, true) L' (mapSet m z (.bool true))) := by
  refine (om_put h _ z 7 true false true hL).mono fun e w' ⟨c, L', he, hh⟩ => ?_
  obtain ⟨ho, ⟨h1, _⟩ | ⟨_, ⟨x, hx, h1⟩, _⟩ | ⟨_, _, h1, rfl, b, rfl⟩⟩ := hh.out
  · omega
  · rcases h1 with h1 | h1
    · obtain ⟨i, h2, h3, _⟩ := hm.id x hx
      omega
    · exact absurd h1 (hz x hx)
  · exact ⟨he, _, by simp, Lib.hid ⟨ho, hm.add h.map.nodup hj⟩⟩

theorem flip_new_om {B s mb j : Nat} {L : List It} {m : List (Int × Value)} {w0 w : World} {zs : List Int} (h : Om B s mb L m w0 w) (hm : Met zs j (7, true, false, true) L m) (hL : L.length ≤ 1000000) :
    Calls Try.prog 16 #[.pointer (some ⟨s, 0, none⟩)] w fun e w' => e = .returned (.int .i64 0) ∧ ∃ L', Hid (Om B s mb L' m w0 w' ∧ Met zs j (7, true, false, false) L' m ∧ L'.length = L.length) := by
  refine (om_flip h hL).mono fun e w' ⟨c, L', he, hh⟩ => ?_
  have h0 : num L false = 0 := num_none (fun x hx => by rw [hm.kd x hx]; rfl)
  obtain ⟨ho, ⟨h1, _⟩ | ⟨_, rfl, rfl⟩⟩ := hh.out
  · omega
  · exact ⟨he, _, Lib.hid ⟨ho, hm.turned, by simp⟩⟩

theorem flip_again_om {B s mb j n : Nat} {L : List It} {m : List (Int × Value)} {w0 w : World} {zs : List Int} (h : Om B s mb L m w0 w) (hm : Met zs j (7, true, false, false) L m) (hn : L.length = n) (hL : n ≤ 1000000) (h0 : 0 < n) :
    Calls Try.prog 16 #[.pointer (some ⟨s, 0, none⟩)] w fun e w' => e = .returned (.int .i64 33) ∧ Hid (Om B s mb L m w0 w') := by
  refine (om_flip h (by omega)).mono fun e w' ⟨c, L', he, hh⟩ => ?_
  have h1 : num L false = L.length := num_all (fun x hx => by rw [hm.kd x hx])
  obtain ⟨ho, ⟨_, rfl, rfl⟩ | ⟨h2, _⟩⟩ := hh.out
  · exact ⟨he, Lib.hid ho⟩
  · omega

theorem count_om {B s mb j n : Nat} {L : List It} {m : List (Int × Value)} {w0 w : World} {zs : List Int} {sw : Bool} (h : Om B s mb L m w0 w) (hm : Met zs j (7, true, false, sw) L m) (hn : L.length = n) (hL : n ≤ 1000000) :
    Calls Try.prog 14 #[.pointer (some ⟨s, 0, none⟩), .bool sw] w fun e w' => e = .returned (.int .i64 n) ∧ Hid (Om B s mb L m w0 w') := by
  refine (om_count h sw (by omega)).mono fun e w' ⟨he, hh⟩ => ⟨?_, hh⟩
  rw [he, num_all (fun x hx => by rw [hm.kd x hx]), hn]

theorem min_base {L : List It} (h : 0 < L.length) : ∃ x ∈ L, ∀ y ∈ L, x.base ≤ y.base := by
  induction L with
  | nil => simp at h
  | cons x L ih =>
    cases L with
    | nil => exact ⟨x, by simp, by simp⟩
    | cons y L =>
      obtain ⟨u, hu, hm⟩ := ih (by simp)
      by_cases hxu : x.base ≤ u.base
      · refine ⟨x, by simp, fun z hz => ?_⟩
        rcases List.mem_cons.1 hz with rfl | hz
        · exact Int.le_refl _
        · have := hm z hz; omega
      · refine ⟨u, by simp [hu], fun z hz => ?_⟩
        rcases List.mem_cons.1 hz with rfl | hz
        · omega
        · exact hm z hz

theorem least_true {B s mb j : Nat} {L : List It} {m : List (Int × Value)} {w0 w : World} {zs : List Int} {x : It} (h : Om B s mb L m w0 w) (hm : Met zs j (7, true, false, false) L m) (hL : L.length ≤ 1000000) (hx : x ∈ L) (hmin : ∀ y ∈ L, x.base ≤ y.base) :
    Calls Try.prog 10 #[.pointer (some ⟨s, 0, none⟩)] w fun e w' => e = .returned (.tuple #[.int .i64 x.id, .bool true]) ∧ Hid (Om B s mb L m w0 w') := by
  refine (om_least h hL).mono fun e w' ⟨id, ok, he, hh⟩ => ?_
  have hk := hm.kd x hx
  obtain ⟨ho, ⟨_, _, h1⟩ | ⟨rfl, y, hy, rfl, hys, hle⟩⟩ := hh.out
  · have := h1 x hx; rw [hk] at this; simp at this
  · have h2 := hle x hx (by rw [hk])
    have h3 := hmin y hy
    have := base_inj h.bases hx hy (by omega)
    subst this
    exact ⟨he, Lib.hid ho⟩

theorem least_false {B s mb j : Nat} {L : List It} {m : List (Int × Value)} {w0 w : World} {zs : List Int} (h : Om B s mb L m w0 w) (hm : Met zs j (7, true, false, true) L m) (hL : L.length ≤ 1000000) :
    Calls Try.prog 10 #[.pointer (some ⟨s, 0, none⟩)] w fun e w' => e = .returned (.tuple #[.int .i64 0, .bool false]) ∧ Hid (Om B s mb L m w0 w') := by
  refine (om_least h hL).mono fun e w' ⟨id, ok, he, hh⟩ => ?_
  obtain ⟨ho, ⟨rfl, rfl, h1⟩ | ⟨rfl, y, hy, rfl, hys, hle⟩⟩ := hh.out
  · exact ⟨he, Lib.hid ho⟩
  · rw [hm.kd y hy] at hys; simp at hys

theorem take_min {B s mb j : Nat} {L : List It} {m : List (Int × Value)} {w0 w : World} {zs : List Int} {x : It} {sw : Bool} (h : Om B s mb L m w0 w) (hm : Met zs j (7, true, false, sw) L m) (hL : L.length ≤ 1000000) (hx : x ∈ L) (hmin : ∀ y ∈ L, x.base ≤ y.base) :
    Calls Try.prog 9 #[.pointer (some ⟨s, 0, none⟩), .int .i64 7, .bool true, .bool false, .bool sw] w fun e w' => e = .returned (.tuple #[.int .i64 x.id, .bool true]) ∧ Hid (Om B s mb (drop L x) m w0 w') := by
  refine (om_take h _ _ _ _ hL).mono fun e w' ⟨id, ok, L', he, hh⟩ => ?_
  obtain ⟨ho, ⟨_, _, _, h1⟩ | ⟨rfl, y, hy, hyk, rfl, hle, rfl⟩⟩ := hh.out
  · exact absurd (hm.kd x hx) (h1 x hx)
  · have h2 := hle x hx (hm.kd x hx)
    have h3 := hmin y hy
    have := base_inj h.bases hx hy (by omega)
    subst this
    exact ⟨he, Lib.hid ho⟩

theorem take_no {B s mb : Nat} {m : List (Int × Value)} {w0 w : World} {sw : Bool} (h : Om B s mb [] m w0 w) :
    Calls Try.prog 9 #[.pointer (some ⟨s, 0, none⟩), .int .i64 7, .bool true, .bool false, .bool sw] w fun e w' => e = .returned (.tuple #[.int .i64 0, .bool false]) ∧ Hid (Om B s mb [] m w0 w') := by
  refine (om_take h _ _ _ _ (by simp)).mono fun e w' ⟨id, ok, L', he, hh⟩ => ?_
  obtain ⟨ho, ⟨rfl, rfl, rfl, h1⟩ | ⟨rfl, y, hy, _⟩⟩ := hh.out
  · exact ⟨he, Lib.hid ho⟩
  · simp at hy

theorem count_no {B s mb : Nat} {m : List (Int × Value)} {w0 w : World} (b : Bool) (h : Om B s mb [] m w0 w) :
    Calls Try.prog 14 #[.pointer (some ⟨s, 0, none⟩), .bool b] w fun e w' => e = .returned (.int .i64 0) ∧ Hid (Om B s mb [] m w0 w') :=
  om_count h b (by simp)

/-- what the second loop needs of the least span -/
theorem least_is {zs : List Int} {sw : Bool} {L : List It} {m : List (Int × Value)} {B s mb : Nat} {w0 w : World} (h : Om B s mb L m w0 w) (hm : Met zs zs.length (7, true, false, sw) L m) (h0 : 0 < L.length) :
    ∃ (x : It) (i i1 : Nat), x ∈ L ∧ (∀ y ∈ L, x.base ≤ y.base) ∧ x.id = (i1 : Int) ∧ i1 = i + 1 ∧ i < zs.length ∧ zs[i]? = some x.base ∧ (mapGet m x.base).getD (.bool false) = .bool true := by
  obtain ⟨x, hx, hmin⟩ := min_base h0
  obtain ⟨i, h1, h2, h3⟩ := hm.id x hx
  exact ⟨x, i, i + 1, hx, hmin, by rw [h2]; rfl, rfl, h1, h3, hm.get h.map.nodup ⟨x, hx, rfl⟩⟩

theorem drop_above {L : List It} (hI : (L.map (·.id)).Nodup) (hB : (L.map (·.base)).Nodup) {x : It} (hx : x ∈ L) (hmin : ∀ y ∈ L, x.base ≤ y.base) : ∀ y ∈ drop L x, x.base < y.base := fun y hy => by
  have h1 := List.mem_filter.1 hy
  have h2 : y.id ≠ x.id := by simpa using h1.2
  have h3 := hmin y h1.1
  by_cases he : y.base = x.base
  · have := base_inj hB h1.1 hx he
    subst this; exact absurd rfl h2
  · omega

theorem drop_no {L : List It} {x : It} : ∀ y ∈ drop L x, y.id ≠ x.id := fun y hy => by
  have h1 := List.mem_filter.1 hy
  simpa using h1.2

set_option maxRecDepth 100000 in
set_option maxHeartbeats 8000000 in
theorem once_any (w : World) (v : Value) (zs : List Int) (fl : Bool) (h : Ints w .u64 v zs) : Calls Try.prog 6 #[v, .bool fl] w (Law w) := by
  obtain ⟨ad, c, rfl, hlc, hcm, _⟩ := id h
  have HI := Lib.hid h
  unfold maxLen at hcm
  have hzl : zs.length ≤ 9223372036854775807 := by omega
  clear h hlc hcm
  by_cases hm : 100 < zs.length
  · go_enter Try.func6, Try.ntmps6
    go_wp2
    go_ret
    exact ⟨rfl, Fr.refl _ _⟩
  go_enter Try.func6, Try.ntmps6
  go_wp2_with fail
  refine (new_m w).mono ?_
  rintro e w1 ⟨s, rfl, N1⟩
  have O1 := Lib.hid (om_new N1.out)
  have hS := Lib.hid (show w.heap.size ≤ w1.heap.size from by obtain ⟨F, _, h2⟩ := N1.out; exact h2.fr.size)
  clear N1
  go_wp2_with (refine wpList_make_map (by rfl) _ (by rfl) ?_)
  go_loopg [6, 8] zs.length (fun k n i wr => ∃ (j : Nat) (L : List It) (m : List (Int × Value)), n = .int .i64 L.length ∧ i = .int .i64 j ∧ j + k = zs.length ∧ L.length ≤ j ∧ Hid (Om w.heap.size s w1.heap.size L m w wr ∧ Met zs j (7, true, false, true) L m))
  case atStart => exact ⟨0, [], [], rfl, rfl, by simp, by simp, Lib.hid ⟨O1.out, Met.nil _ _⟩⟩
  case round =>
    obtain ⟨j, L, m, rfl, rfl, hj, hl, HR⟩ := hrel
    clear O1
    by_cases hlt : j < zs.length
    · obtain ⟨z, hz⟩ : ∃ z, zs[j]? = some z := ⟨_, List.getElem?_eq_getElem hlt⟩
      obtain ⟨b, o, rfl, hbw, c0, cw⟩ := ints_at HI.out HR.out.1.fr (Nat.le_refl _) hz
      have HJ := Lib.hid (And.intro hj (And.intro hz (And.intro hbw cw)))
      clear cw
      by_cases hx : ∃ x ∈ L, x.base = z
      · have P := Lib.hid (put_twice_om (j := j) (zs := zs) HR.out.1 (by omega) hx)
        have G := Lib.hid (HR.out.2.get HR.out.1.map.nodup hx)
        clear hx hj hz hbw
        go_wp2_with fail
        refine P.out.mono ?_
        rintro e w2 ⟨rfl, O2⟩
        have c1 := cell_through O2.out.fr HJ.out.2.2.2 (by have := HJ.out.2.2.1; omega)
        have look := run_met O2.out.map G.out w2 rfl
        clear c0
        go_wp2_with fail
        go_roundg (gk - 1)
        case measure => have := HJ.out.1; omega
        case rel => have := HJ.out.1; exact ⟨j + 1, L, m, rfl, by go_num, by omega, by omega, Lib.hid ⟨O2.out, HR.out.2.skip⟩⟩
      · have hx' : ∀ x ∈ L, x.base ≠ z := fun x h1 h2 => hx ⟨x, h1, h2⟩
        have P := Lib.hid (put_new_om HR.out.1 HR.out.2 hz (by omega) hx')
        have G := Lib.hid (HR.out.2.not hx')
        clear hx hx' hj hz hbw
        go_wp2_with fail
        refine P.out.mono ?_
        rintro e w2 ⟨rfl, L2, hl2, O2⟩
        have HL2 := Lib.hid hl2
        clear hl2
        have c1 := cell_through O2.out.1.fr HJ.out.2.2.2 (by have := HJ.out.2.2.1; omega)
        have look := run_met O2.out.1.map G.out w2 rfl
        obtain ⟨w3, r3, hm3, f3⟩ := run_map_set (w := w2) keyLaw_b Try.underlying46 O2.out.1.map z (.bool true)
        unfold benc at r3
        have O3 := Lib.hid (O2.out.1.map_turns hm3 f3)
        clear c0 hm3 f3
        go_wp2_with fail
        go_roundg (gk - 1)
        case measure => have := HJ.out.1; omega
        case rel => have := HJ.out.1; have := HL2.out; exact ⟨j + 1, L2, _, by rw [HL2.out]; go_num, by go_num, by omega, by omega, Lib.hid ⟨O3.out, O2.out.2⟩⟩
    · have hj0 : j = zs.length := by omega
      subst hj0
      clear hj hlt
      have hn100 : L.length ≤ 100 := by omega
      obtain ⟨n, hn⟩ : ∃ n, L.length = n := ⟨_, rfl⟩
      rw [hn] at hn100 hl ⊢
      have HN := Lib.hid hn
      clear hn
      cases fl with
      | true =>
        have P1 := Lib.hid (flip_new_om HR.out.1 HR.out.2 (by have := HN.out; omega))
        go_wp2_with fail
        refine P1.out.mono ?_
        rintro e w2 ⟨rfl, L2, O2⟩
        obtain ⟨q1, q2, q3⟩ := O2.out
        have HN2 := Lib.hid (q3.trans HN.out)
        clear q1 q2 q3 P1
        have K1 := Lib.hid (count_om O2.out.1 O2.out.2.1 HN2.out (by omega))
        by_cases h0 : 0 < n
        · have FA := Lib.hid (fun w3 (O : Om w.heap.size s w1.heap.size L2 m w w3) => flip_again_om O O2.out.2.1 HN2.out (by omega) h0)
          go_wp2_with (first | (go_at_call 14; refine K1.out.mono ?_; rintro e w3 ⟨rfl, O3⟩) | (go_at_call 16; refine (FA.out w3 O3.out).mono ?_; rintro e w4 ⟨rfl, O4⟩))
          clear h0
          go_loopg [10, 11] n (fun k last i wr => ∃ (q : Nat) (L2 : List It) (m2 : List (Int × Value)) (z : Int), last = .int .u64 z ∧ i = .int .i64 q ∧ q + k = n ∧ Hid (Om w.heap.size s w1.heap.size L2 m2 w wr ∧ Met zs zs.length (7, true, false, false) L2 m2 ∧ L2.length = k ∧ (0 < q → ∀ x ∈ L2, z < x.base)))
          case atStart => exact ⟨0, L2, m, 0, rfl, rfl, by simp, Lib.hid ⟨O4.out, O2.out.2.1, HN2.out, by simp⟩⟩
          case round =>
            obtain ⟨q, L3, m2, z, rfl, rfl, hq, H2⟩ := hrel
            clear O2 O3 O4 K1 FA HN2
            by_cases hlt : q < n
            · obtain ⟨x, i, i1, hx, hmin, hid, hi1, hil, hzi, hg⟩ := least_is H2.out.1 H2.out.2.1 (by rw [H2.out.2.2.1]; omega)
              have LT := least_true H2.out.1 H2.out.2.1 (by rw [H2.out.2.2.1]; omega) hx hmin
              have T := fun w3 (O : Om w.heap.size s w1.heap.size L3 m2 w w3) => take_min O H2.out.2.1 (by rw [H2.out.2.2.1]; omega) hx hmin
              rw [hid] at T LT
              have LT := Lib.hid LT
              have T := Lib.hid T
              have HX := Lib.hid (And.intro hx (And.intro hmin (And.intro hid (And.intro hi1 (And.intro hil (And.intro hzi hg))))))
              clear hx hmin hid hi1 hil hzi hg
              go_wp2_with fail
              refine LT.out.mono ?_
              rintro e w3 ⟨rfl, O3⟩
              go_wp2_with fail
              refine (T.out w3 O3.out).mono ?_
              rintro e w4 ⟨rfl, O4⟩
              obtain ⟨b, o, rfl, hbw, c4, cw⟩ := ints_at HI.out O4.out.fr (Nat.le_refl _) HX.out.2.2.2.2.2.1
              have hsub : (i1 : Int) - 1 = (i : Int) := by have := HX.out.2.2.2.1; omega
              have g1 : 1 ≤ i1 := by have := HX.out.2.2.2.1; omega
              have g2 : i1 ≤ zs.length := by have := HX.out.2.2.2.1; have := HX.out.2.2.2.2.1; omega
              have g3 : i < zs.length := HX.out.2.2.2.2.1
              have look := run_met O4.out.map HX.out.2.2.2.2.2.2 w4 rfl
              have Q := Lib.hid hq
              clear cw hbw hq
              have fin : ∀ (O : Om w.heap.size s w1.heap.size (drop L3 x) m2 w w4) (w5 : World), MapIs benc w5 w1.heap.size (mapDel m2 x.base) → Fr (fun b => b = w1.heap.size) w4 w5 → Om w.heap.size s w1.heap.size (drop L3 x) (mapDel m2 x.base) w w5 := fun O w5 h1 h2 => O.map_turns h1 h2
              have FIN := Lib.hid (fin O4.out)
              have RM := Lib.hid (fun w5 (O : Om w.heap.size s w1.heap.size (drop L3 x) (mapDel m2 x.base) w w5) => om_remove O (i1 : Int) (by have := drop_len H2.out.1.ids HX.out.1; have := H2.out.2.2.1; have := Q.out; omega) (by rw [← HX.out.2.2.1]; exact drop_no))
              have ST := Lib.hid (H2.out.2.1.drop H2.out.1.map.nodup H2.out.1.ids H2.out.1.bases HX.out.1)
              have DL := Lib.hid (drop_len H2.out.1.ids HX.out.1)
              have AB := Lib.hid (drop_above H2.out.1.ids H2.out.1.bases HX.out.1 HX.out.2.1)
              clear fin
              by_cases h0 : 0 < q
              · have hzx : z < x.base := H2.out.2.2.2 h0 x HX.out.1
                go_wp2_with (first | (refine wpList_map_del (by rfl) keyLaw_b Try.underlying46 _ _ 26 (by rfl) O4.out.map x.base (by rfl) (by rfl) ?_; intro w5 hm5 f5; have O5 := Lib.hid (FIN.out w5 hm5 f5); clear hm5 f5) | (go_at_call 11; refine (RM.out w5 O5.out).mono ?_; rintro e w6 ⟨rfl, O6⟩))
                go_roundg (gk - 1)
                case measure => have := Q.out; omega
                case rel =>
                  have := Q.out; have := DL.out; have := H2.out.2.2.1
                  exact ⟨q + 1, _, _, _, rfl, by go_num, by omega, Lib.hid ⟨O6.out, ST.out, by omega, fun _ => AB.out⟩⟩
              · have hq0 : q = 0 := by omega
                subst hq0
                clear h0
                go_wp2_with (first | (refine wpList_map_del (by rfl) keyLaw_b Try.underlying46 _ _ 26 (by rfl) O4.out.map x.base (by rfl) (by rfl) ?_; intro w5 hm5 f5; have O5 := Lib.hid (FIN.out w5 hm5 f5); clear hm5 f5) | (go_at_call 11; refine (RM.out w5 O5.out).mono ?_; rintro e w6 ⟨rfl, O6⟩))
                go_roundg (gk - 1)
                case measure => have := Q.out; omega
                case rel =>
                  have := Q.out; have := DL.out; have := H2.out.2.2.1
                  exact ⟨1, _, _, _, rfl, by go_num, by omega, Lib.hid ⟨O6.out, ST.out, by omega, fun _ => AB.out⟩⟩
            · have hk0 : L3 = [] := List.eq_nil_of_length_eq_zero (by have := H2.out.2.2.1; omega)
              have OE := H2.out.1
              rw [hk0] at OE
              have OE := Lib.hid OE
              clear hk0 hq
              have T := Lib.hid (take_no (sw := false) OE.out)
              go_wp2_with fail
              refine T.out.mono ?_
              rintro e w3 ⟨rfl, O3⟩
              have K1 := Lib.hid (count_no true O3.out)
              go_wp2_with fail
              refine K1.out.mono ?_
              rintro e w4 ⟨rfl, O4⟩
              have K2 := Lib.hid (count_no false O4.out)
              go_wp2_with fail
              refine K2.out.mono ?_
              rintro e w5 ⟨rfl, O5⟩
              go_wp2_with fail
              refine (awake_any w5).mono ?_
              rintro e w6 ⟨rfl, g6⟩
              have G6 := Lib.hid (O5.out.done.trans g6 (fun _ _ h => h))
              clear g6
              go_wp2
              go_ret
              exact ⟨rfl, G6.out⟩
        · have hn0 : n = 0 := by omega
          have h0b : decide (0 < (n : Int)) = false := by simpa using h0
          subst hn0
          clear h0b h0
          go_wp2_with (first | (go_at_call 14; refine K1.out.mono ?_; rintro e w3 ⟨rfl, O4⟩))
          go_loopg [10, 11] 0 (fun k last i wr => ∃ (q : Nat) (L2 : List It) (m2 : List (Int × Value)) (z : Int), last = .int .u64 z ∧ i = .int .i64 q ∧ q + k = 0 ∧ Hid (Om w.heap.size s w1.heap.size L2 m2 w wr ∧ Met zs zs.length (7, true, false, false) L2 m2 ∧ L2.length = k ∧ (0 < q → ∀ x ∈ L2, z < x.base)))
          case atStart => exact ⟨0, L2, m, 0, rfl, rfl, by simp, Lib.hid ⟨O4.out, O2.out.2.1, HN2.out, by simp⟩⟩
          case round =>
            obtain ⟨q, L3, m2, z, rfl, rfl, hq, H2⟩ := hrel
            have hq0 : q = 0 := by omega
            clear O2 O4 K1 HN2
            subst hq0
            have hk0 : L3 = [] := List.eq_nil_of_length_eq_zero (by have := H2.out.2.2.1; omega)
            have OE := H2.out.1
            rw [hk0] at OE
            have OE := Lib.hid OE
            clear hk0 hq
            have T := Lib.hid (take_no (sw := false) OE.out)
            go_wp2_with fail
            refine T.out.mono ?_
            rintro e w3 ⟨rfl, O3⟩
            have K1 := Lib.hid (count_no true O3.out)
            go_wp2_with fail
            refine K1.out.mono ?_
            rintro e w4 ⟨rfl, O4⟩
            have K2 := Lib.hid (count_no false O4.out)
            go_wp2_with fail
            refine K2.out.mono ?_
            rintro e w5 ⟨rfl, O5⟩
            go_wp2_with fail
            refine (awake_any w5).mono ?_
            rintro e w6 ⟨rfl, g6⟩
            have G6 := Lib.hid (O5.out.done.trans g6 (fun _ _ h => h))
            clear g6
            go_wp2
            go_ret
            exact ⟨rfl, G6.out⟩
      | false =>
        have P1 := Lib.hid (count_om HR.out.1 HR.out.2 HN.out (by omega))
        go_wp2_with (go_at_call 14; refine P1.out.mono ?_; rintro e w2 ⟨rfl, O2⟩)
        go_loopg [10, 11] n (fun k last i wr => ∃ (q : Nat) (L2 : List It) (m2 : List (Int × Value)) (z : Int), last = .int .u64 z ∧ i = .int .i64 q ∧ q + k = n ∧ Hid (Om w.heap.size s w1.heap.size L2 m2 w wr ∧ Met zs zs.length (7, true, false, true) L2 m2 ∧ L2.length = k ∧ (0 < q → ∀ x ∈ L2, z < x.base)))
        case atStart => exact ⟨0, L, m, 0, rfl, rfl, by simp, Lib.hid ⟨O2.out, HR.out.2, HN.out, by simp⟩⟩
        case round =>
          obtain ⟨q, L2, m2, z, rfl, rfl, hq, H2⟩ := hrel
          clear O2 P1
          by_cases hlt : q < n
          · obtain ⟨x, i, i1, hx, hmin, hid, hi1, hil, hzi, hg⟩ := least_is H2.out.1 H2.out.2.1 (by rw [H2.out.2.2.1]; omega)
            have LT := least_false H2.out.1 H2.out.2.1 (by rw [H2.out.2.2.1]; omega)
            have T := fun w3 (O : Om w.heap.size s w1.heap.size L2 m2 w w3) => take_min O H2.out.2.1 (by rw [H2.out.2.2.1]; omega) hx hmin
            rw [hid] at T
            have LT := Lib.hid LT
            have T := Lib.hid T
            have HX := Lib.hid (And.intro hx (And.intro hmin (And.intro hid (And.intro hi1 (And.intro hil (And.intro hzi hg))))))
            clear hx hmin hid hi1 hil hzi hg
            go_wp2_with fail
            refine LT.out.mono ?_
            rintro e w3 ⟨rfl, O3⟩
            go_wp2_with fail
            refine (T.out w3 O3.out).mono ?_
            rintro e w4 ⟨rfl, O4⟩
            obtain ⟨b, o, rfl, hbw, c4, cw⟩ := ints_at HI.out O4.out.fr (Nat.le_refl _) HX.out.2.2.2.2.2.1
            have hsub : (i1 : Int) - 1 = (i : Int) := by have := HX.out.2.2.2.1; omega
            have g1 : 1 ≤ i1 := by have := HX.out.2.2.2.1; omega
            have g2 : i1 ≤ zs.length := by have := HX.out.2.2.2.1; have := HX.out.2.2.2.2.1; omega
            have g3 : i < zs.length := HX.out.2.2.2.2.1
            have look := run_met O4.out.map HX.out.2.2.2.2.2.2 w4 rfl
            have Q := Lib.hid hq
            clear cw hbw hq
            have fin : ∀ (O : Om w.heap.size s w1.heap.size (drop L2 x) m2 w w4) (w5 : World), MapIs benc w5 w1.heap.size (mapDel m2 x.base) → Fr (fun b => b = w1.heap.size) w4 w5 → Om w.heap.size s w1.heap.size (drop L2 x) (mapDel m2 x.base) w w5 := fun O w5 h1 h2 => O.map_turns h1 h2
            have FIN := Lib.hid (fin O4.out)
            have RM := Lib.hid (fun w5 (O : Om w.heap.size s w1.heap.size (drop L2 x) (mapDel m2 x.base) w w5) => om_remove O (i1 : Int) (by have := drop_len H2.out.1.ids HX.out.1; have := H2.out.2.2.1; have := Q.out; omega) (by rw [← HX.out.2.2.1]; exact drop_no))
            have ST := Lib.hid (H2.out.2.1.drop H2.out.1.map.nodup H2.out.1.ids H2.out.1.bases HX.out.1)
            have DL := Lib.hid (drop_len H2.out.1.ids HX.out.1)
            have AB := Lib.hid (drop_above H2.out.1.ids H2.out.1.bases HX.out.1 HX.out.2.1)
            clear fin
            by_cases h0 : 0 < q
            · have hzx : z < x.base := H2.out.2.2.2 h0 x HX.out.1
              go_wp2_with (first | (refine wpList_map_del (by rfl) keyLaw_b Try.underlying46 _ _ 26 (by rfl) O4.out.map x.base (by rfl) (by rfl) ?_; intro w5 hm5 f5; have O5 := Lib.hid (FIN.out w5 hm5 f5); clear hm5 f5) | (go_at_call 11; refine (RM.out w5 O5.out).mono ?_; rintro e w6 ⟨rfl, O6⟩))
              go_roundg (gk - 1)
              case measure => have := Q.out; omega
              case rel =>
                have := Q.out; have := DL.out; have := H2.out.2.2.1
                exact ⟨q + 1, _, _, _, rfl, by go_num, by omega, Lib.hid ⟨O6.out, ST.out, by omega, fun _ => AB.out⟩⟩
            · have hq0 : q = 0 := by omega
              subst hq0
              clear h0
              go_wp2_with (first | (refine wpList_map_del (by rfl) keyLaw_b Try.underlying46 _ _ 26 (by rfl) O4.out.map x.base (by rfl) (by rfl) ?_; intro w5 hm5 f5; have O5 := Lib.hid (FIN.out w5 hm5 f5); clear hm5 f5) | (go_at_call 11; refine (RM.out w5 O5.out).mono ?_; rintro e w6 ⟨rfl, O6⟩))
              go_roundg (gk - 1)
              case measure => have := Q.out; omega
              case rel =>
                have := Q.out; have := DL.out; have := H2.out.2.2.1
                exact ⟨1, _, _, _, rfl, by go_num, by omega, Lib.hid ⟨O6.out, ST.out, by omega, fun _ => AB.out⟩⟩
          · have hk0 : L2 = [] := List.eq_nil_of_length_eq_zero (by have := H2.out.2.2.1; omega)
            have OE := H2.out.1
            rw [hk0] at OE
            have OE := Lib.hid OE
            clear hk0 hq
            have T := Lib.hid (take_no (sw := true) OE.out)
            go_wp2_with fail
            refine T.out.mono ?_
            rintro e w3 ⟨rfl, O3⟩
            have K1 := Lib.hid (count_no true O3.out)
            go_wp2_with fail
            refine K1.out.mono ?_
            rintro e w4 ⟨rfl, O4⟩
            have K2 := Lib.hid (count_no false O4.out)
            go_wp2_with fail
            refine K2.out.mono ?_
            rintro e w5 ⟨rfl, O5⟩
            go_wp2_with fail
            refine (awake_any w5).mono ?_
            rintro e w6 ⟨rfl, g6⟩
            have G6 := Lib.hid (O5.out.done.trans g6 (fun _ _ h => h))
            clear g6
            go_wp2
            go_ret
            exact ⟨rfl, G6.out⟩

theorem once_said (w : World) (v : Value) (zs : List Int) (h : Ints w .u64 v zs) (fl : Bool) : Calls Try.prog 6 #[v, .bool fl] w (Law w) := once_any w v zs fl h
end Go.Proofs.Ytanaicjeheacoaa
