/-
  Part 7 of what the statement leans on: Lw3f, Lw4, Op28.
-/
import Derived.Test.YtcemhpdhcmlhlaaGreatDoorPk6
import Derived.Test.YtcemhpdhcmlhlaaGreatDoorRows
import Derived.ProofKit
import Derived.OpenShut
import Derived.ShutString
import Derived.ChangeOld
import Derived.Deep.Slices
import Derived.Deep.Fields
import Derived.LaidMore
import Derived.Lay
import Derived.SevenTiedAt
import Derived.Stop.Joined
import Derived.Lib.LaidTab
import Derived.Stop.LaidErr
import Derived.HandedShaped
/-
  mallowlaw28.TraceBack: one of its ways.
-/
namespace Go.Proofs.YtcemhpdhcmlhlaaGreatDoor
open Go.RowKit Go.Deep Go.Shelf

set_option maxRecDepth 100000 in
set_option maxHeartbeats 20000000 in
theorem back_f (w : World) (a : Option Addr) (c : Nat) (L : List Ev) (s : List UInt8) (cut : Int) (B : Bk w a c L s) (T : List UInt8) (hTl : (T.length : Int) ≤ 100000) (hz1 : 0 < (T.length : Int)) (hz2 : 0 < cut) (hc2 : cut ≤ 9223372036854775807) (n : Nat) (hk : cut % (T.length : Int) = ((n : Int) + 1)) (hkl : (n : Int) + 1 < T.length) (b : UInt8) (hb : T[n]? = some b) (h10 : b ≠ 10) (hp : BkP w a c L T 0) (ha : BkA1 w L T) (ha2 : BkA2 w (T.take (n + 1))) :
    Calls Tryz.prog 4 #[.slice a L.length c, str s, .int .i64 cut] w fun e w' => e = .returned (.bool true) ∧ Fr (fun _ => False) w w' := by
  have h3 := B.h3
  have h4 := B.h4
  have HA3 := Lib.hid B.A
  have HS := Lib.hid B.S
  have HM := Lib.hid B.M
  have HW2 := Lib.hid B.W
  have F0 := Lib.hid (Fr.refl (fun _ => False) w)
  clear B
  have HP := Lib.hid hp
  have HA1 := Lib.hid ha
  clear hp ha
  have HA2 := Lib.hid ha2
  clear ha2
  have hbs : n < (⟨T.toArray⟩ : ByteArray).size := by rw [size_mk]; omega
  have hb0 := byte_at hb hbs
  replace hb := Lib.hid hb
  have hn : ((b.toNat : Int) == 10) = false := by
    have : b.toNat ≠ 10 := fun e => h10 (UInt8.toNat_inj.1 e)
    simp only [beq_eq_false_iff_ne, ne_eq]; omega
  have hx := Lib.hid (show (⟨T.toArray⟩ : ByteArray).extract 0 (n + 1) = ⟨(T.take (n + 1)).toArray⟩ from by rw [str_extract]; simp)
  go_enter Tryz.func4, Tryz.ntmps4
  go_wp2_with (first
    | (go_at_call 5; refine (HP.out _ F0.out).mono ?_; rintro e w1 ⟨rfl, F1⟩; replace F0 := Lib.hid F1; clear HP F1)
    | (go_at_call 8; refine (HA1.out _ F0.out).mono ?_; rintro e w2 ⟨a1, c1, rfl, hr1, F1⟩; have HS1 := Lib.hid (HS.out _ a1 c1 hr1 F1); replace F0 := Lib.hid F1; clear HA1 F1 hr1 HS)
    | (go_at_call 7; refine HS1.out.mono ?_; rintro e w3 ⟨rfl, F1⟩; replace F0 := Lib.hid F1; clear HS1 F1))
  have hn' : ((b.toNat : Int) != 10) = true := by rw [bne, hn]; rfl
  simp only [hk, hn']
  clear hn'
  go_loopg [13, 14] (n + 1) (fun m l i wr => ∃ (j : Nat), i = .int .i64 j ∧ l = .int .i64 ((ends (T.take j) : Int) + 1) ∧ Hid (j + m = n + 1 ∧ Fr (fun _ => False) w wr))
  case atStart => exact ⟨0, rfl, rfl, Lib.hid ⟨by simp, F0.out⟩⟩
  case round =>
    obtain ⟨j, rfl, rfl, hj⟩ := hrel
    clear hk hn
    by_cases hlt : j < n + 1
    · obtain ⟨d, hd⟩ : ∃ d, T[j]? = some d := ⟨_, List.getElem?_eq_getElem (by omega)⟩
      have hds : j < (⟨T.toArray⟩ : ByteArray).size := by rw [size_mk]; omega
      have hd0 := byte_at hd hds
      have hen := Lib.hid (ends_take hd)
      have hlt' : (j : Int) < (n : Int) + 1 := by omega
      have hjl : (j : Int) < T.length := by omega
      have heb : (ends (T.take j) : Int) ≤ 100000 := by
        have : ends (T.take j) ≤ (T.take j).length := List.countP_le_length
        rw [List.length_take] at this
        omega
      clear hd hb0
      by_cases hd10 : d = 10
      · subst hd10
        go_wp2
        go_roundg (gk - 1)
        case measure => have := hj.out.1; omega
        case rel => exact ⟨j + 1, by go_num, by rw [hen.out]; exact congrArg (Value.int .i64) (by simp), Lib.hid ⟨by have := hj.out.1; omega, hj.out.2⟩⟩
      · have hdn : ((d.toNat : Int) == 10) = false := by
          have : d.toNat ≠ 10 := fun e => hd10 (UInt8.toNat_inj.1 e)
          simp only [beq_eq_false_iff_ne, ne_eq]; omega
        go_wp2
        go_roundg (gk - 1)
        case measure => have := hj.out.1; omega
        case rel => exact ⟨j + 1, by go_num, by rw [hen.out, if_neg hd10]; rfl, Lib.hid ⟨by have := hj.out.1; omega, hj.out.2⟩⟩
    · obtain rfl : j = n + 1 := by have := hj.out.1; omega
      replace F0 := Lib.hid hj.out.2
      have hx2 := hx.out
      clear hb0
      go_wp2_with (first
        | (go_at_call 8; refine (HA2.out _ F0.out).mono ?_; rintro e w4 ⟨a2, c2, rfl, F1⟩; replace F0 := Lib.hid F1; clear HA2 F1)
        | (go_at_call 8; refine (HA3.out _ F0.out).mono ?_; rintro e w5 ⟨M, a3, c3, code, k3, rfl, hpv3, hml, hr3, F1⟩; replace F0 := Lib.hid F1; clear HA3 F1; replace hr3 := Lib.hid hr3; replace hpv3 := Lib.hid hpv3; rcases hpv3.out.code with rfl | rfl; obtain ⟨rfl, hpm⟩ := back_text hpv3.out; replace hpm := Lib.hid hpm)
        | (go_at_call 5; refine (HM.out M a3 c3 _ (fun x hx => pv_wf hpv3.out x hx) (by omega) hr3.out F0.out hpm.out).mono ?_; rintro e w6 ⟨rfl, F1⟩; replace F0 := Lib.hid F1; clear F1)
        | (go_at_call 10; refine (HW2.out _ F0.out).mono ?_; rintro e w7 ⟨rfl, F1⟩; replace F0 := Lib.hid F1; clear F1))
      all_goals go_ret
      all_goals exact ⟨rfl, F0.out⟩
end Go.Proofs.YtcemhpdhcmlhlaaGreatDoor

/-
  mallowlaw28.TraceBack: it answers true. Condition: the library's tables lie; the events' numbers fit.
-/
namespace Go.Proofs.YtcemhpdhcmlhlaaGreatDoor
open Go.RowKit Go.Deep Go.Shelf

set_option maxRecDepth 100000 in
set_option maxHeartbeats 4000000 in
theorem back_law (w : World) (a : Option Addr) (c : Nat) (L : List Ev) (s : List UInt8) (cut : Int) (hcf : fits64 cut) (hrd : Rd w 4 (.slice a L.length c) L.length (L.flatMap Ev.cells)) (hwf : ∀ x ∈ L, x.wf) (hL : Laid w) :
    Calls Tryz.prog 4 #[.slice a L.length c, str s, .int .i64 cut] w fun e w' => e = .returned (.bool true) ∧ Fr (fun _ => False) w w' := by
  by_cases h1 : (1000 : Int) < L.length
  · go_enter Tryz.func4, Tryz.ntmps4
    go_wp2
    go_ret
    exact ⟨rfl, Fr.refl _ _⟩
  by_cases h2 : (20000 : Int) < s.length
  · go_enter Tryz.func4, Tryz.ntmps4
    go_wp2
    go_ret
    exact ⟨rfl, Fr.refl _ _⟩
  have h3 : (L.length : Int) ≤ 1000 := by omega
  have h4 : (s.length : Int) ≤ 20000 := by omega
  have HA : ∀ t : List UInt8, t.length ≤ 1048576 → BkA w t := fun t ht W hW => (callsIn_wide.1 (parse_in 5 (Nat.le_refl _) t ht W (hL.fr hW))).mono (by
    rintro e w' ⟨h2, v, code, k, rfl, hp⟩
    obtain ⟨M, a1, c1, rfl, h3, h4, h5⟩ := hp.told
    exact ⟨M, a1, c1, code, k, rfl, h4, h5, h3, hW.trans h2 (fun _ _ x => x)⟩)
  have B : Bk w a c L s := {
    h3 := h3
    h4 := h4
    A := HA s (by omega)
    S := fun W a1 c1 h1 hW => (same_h W L a1 a c1 c h1 (hrd.fr hW (fun _ _ x => x)) (by omega)).mono (by
      rintro e w' ⟨rfl, h2⟩
      exact ⟨rfl, hW.trans h2 (fun _ _ x => x)⟩)
    M := fun M a1 c1 W hw hm h1 hW hp => (print_h W a1 c1 M h1 hw hm (hL.fr hW)).mono (by
      rintro e w' ⟨rfl, h2⟩
      exact ⟨by rw [hp], hW.trans h2 (fun _ _ x => x)⟩)
    W := fun W hW => (awake_any W (hL.fr hW)).mono (by
      rintro e w' ⟨rfl, h2⟩
      exact ⟨rfl, hW.trans h2 (fun _ _ x => x)⟩) }
  have HP : ∀ pt pc, printV L = .tuple #[str pt, .int .i64 pc] → BkP w a c L pt pc := fun pt pc he W hW => (print_h W a c L (hrd.fr hW (fun _ _ x => x)) hwf (by omega) (hL.fr hW)).mono (by
    rintro e w' ⟨rfl, h2⟩
    exact ⟨by rw [he], hW.trans h2 (fun _ _ x => x)⟩)
  by_cases hall : L.all Ev.right = true
  · have hp := HP (L.flatMap Ev.line) 0 (by unfold printV; rw [if_pos hall])
    replace hall : ∀ x ∈ L, x.right = true := fun x hx => List.all_eq_true.1 hall x hx
    obtain ⟨T, hT⟩ : ∃ T, T = L.flatMap Ev.line := ⟨_, rfl⟩
    have hTl : (T.length : Int) ≤ 100000 := by
      have := lines_len hwf hall
      rw [← hT] at this
      omega
    rw [← hT] at hp
    have ha : BkA1 w L T := fun W hW => (HA T (by omega) W hW).mono (by
      rintro e w' ⟨M, a1, c1, code, k, rfl, g1, _, g2, g3⟩
      rw [hT] at g1
      obtain ⟨e1, e2, e3⟩ := back_whole hall g1
      subst e1 e2 e3
      exact ⟨a1, c1, rfl, g2, g3⟩)
    by_cases hz1 : 0 < T.length
    · by_cases hz2 : 0 < cut
      · have hz1' : (0 : Int) < T.length := by omega
        obtain ⟨κ, hκ⟩ : ∃ κ : Nat, cut % (T.length : Int) = κ := ⟨(cut % (T.length : Int)).toNat, (Int.toNat_of_nonneg (Int.emod_nonneg _ (by omega))).symm⟩
        have hκl : (κ : Int) < T.length := by rw [← hκ]; exact Int.emod_lt_of_pos _ hz1'
        rcases Nat.eq_zero_or_pos κ with rfl | hκ0
        · exact back_d w a c L s cut B T hTl hz1' hz2 hcf.2 hκ hp ha
        · obtain ⟨n, rfl⟩ : ∃ n, κ = n + 1 := ⟨κ - 1, by omega⟩
          obtain ⟨b, hb⟩ : ∃ b, T[n]? = some b := ⟨_, List.getElem?_eq_getElem (by omega)⟩
          by_cases h10 : b = 10
          · exact back_e w a c L s cut B T hTl hz1' hz2 hcf.2 n (by rw [hκ]; simp) (by omega) b hb h10 hp ha
          · refine back_f w a c L s cut B T hTl hz1' hz2 hcf.2 n (by rw [hκ]; simp) (by omega) b hb h10 hp ha fun W hW => (HA (T.take (n + 1)) (by rw [List.length_take]; omega) W hW).mono ?_
            rintro e w' ⟨M, a1, c1, code, k, rfl, g1, _, g2, g3⟩
            have hb' := hb
            rw [hT] at g1 hb'
            obtain ⟨e1, e2, e3⟩ := back_cut hall (by rw [← hT]; omega) hb' h10 g1
            subst e1 e2 e3
            exact ⟨a1, c1, by rw [hT]; rfl, g3⟩
      · exact back_c w a c L s cut B T hTl (by omega) (by omega) hp ha
    · obtain rfl : T = [] := List.eq_nil_of_length_eq_zero (by omega)
      exact back_b w a c L s cut B hp ha
  · exact back_a w a c L s cut B [] (HP [] 1 (by unfold printV; rw [if_neg hall]))
end Go.Proofs.YtcemhpdhcmlhlaaGreatDoor

/-
  Arguments that came in: a slice of events; what the listed variables hold. No condition.
-/
namespace Go.Proofs.YtcemhpdhcmlhlaaGreatDoor
open Go.ChangeShapes Go.WideShapes Go.ChangeAt Go.RowKit Go.Deep

theorem own28 : ownKnob Tryz.prog.godebug = none := by kernel_rfl
theorem laidOut28 : laidOutB Tryz.prog = true := by kernel_rfl

section
variable {H : Type} {enc : TypeId × Value → H} {P : Program} {w : World} {base : Nat} {held : Bool}

/-- a slice of structs whose fields are one cell each: every field of every element is there, and reads -/
theorem open_structs {t e : TypeId} {fs : Array Field} {fuel : Nat} {a0 : Option Addr} {len cap : Nat} {x : DataW H × List MemPlace} (ht : P.underlying t = some (.slice e)) (he : P.underlying e = some (.struct fs))
    (hone : oneCellFields P fs = true) (hC : P.cellsOf e = fs.size) (h : DataW.trod enc P w base (fun _ => true) held fuel t (Value.cells (.slice a0 len cap)).toList = some x) :
    len ≤ cap ∧ cap ≤ maxLen ∧ ∀ i, i < len → ∃ a, a0 = some a ∧ ∀ (j : Nat) (f : Field), fs[j]? = some f → ∃ (v : Value) (y : DataW H × List MemPlace) (n : Nat),
      w.cell? (a.add (i * fs.size + j)) = some v ∧ DataW.trod enc P w base (fun _ => true) held n f.type [v] = some y := by
  rcases open_slice ht h with ⟨hcs, _⟩ | ⟨a, l, c, m, n, D, Pl, hcs, _, hl, hm, hmm, _, hi⟩
  · simp [Value.cells] at hcs
    obtain ⟨rfl, rfl, rfl⟩ := hcs
    exact ⟨Nat.le_refl _, by simp [maxLen], fun i hi => absurd hi (Nat.not_lt_zero i)⟩
  · simp [Value.cells] at hcs
    obtain ⟨rfl, rfl, rfl⟩ := hcs
    simp only [if_true] at hmm
    refine ⟨hl, hm, fun i hil => ⟨a, rfl, fun j f hj => ?_⟩⟩
    obtain ⟨cs, hc, ht'⟩ := hi i (by omega)
    rw [hC] at hc
    obtain ⟨ys, n', _, _, hlen, hyl, hf⟩ := DataW.trod_struct he ht'
    obtain ⟨_, hcl, hat⟩ := World.cells?_some hc
    obtain ⟨ho, hk⟩ := hone_of hone j f hj
    have hjl : j < fs.size := (Array.getElem?_eq_some_iff.1 hj).1
    have h1 := hf j f hj
    rw [ho, hk, take1_drop cs j undef (by omega), List.getElem?_eq_getElem (by omega)] at h1
    refine ⟨_, _, n', ?_, h1⟩
    rw [← Go.Deep.add_add, hat j hjl, List.getElem?_eq_getElem (by omega)]
    simp [List.getD, List.getElem?_eq_getElem (show j < cs.length by omega)]

/-- an integer's cell -/
theorem trod_int_cell {t : TypeId} {k : IntKind} {n : Nat} {v : Value} {y : DataW H × List MemPlace} (ht : P.underlying t = some (.int k)) (h : DataW.trod enc P w base (fun _ => true) held n t [v] = some y) :
    ∃ z, v = .int k z ∧ (Lit.int k z).wf = true := by
  obtain ⟨z, e0, _, hw⟩ := DataW.trod_int ht h
  exact ⟨z, by simpa using e0, hw⟩


/-- an interface value that reads as one is one -/
theorem iface_of_trod {t : TypeId} {ms : Array (String × TypeId)} {n : Nat} {cs : List Value} {nm : String} {d : DataW H} {p : List MemPlace} (ht : P.underlying t = some (.interface ms)) (h : DataW.trod enc P w base (fun _ => true) held n t cs = some (.iface nm d, p)) :
    ∃ u v, cs = [.iface u v] := by
  cases n with
  | zero => simp [DataW.trod] at h
  | succ n =>
    simp only [DataW.trod, ht] at h
    split at h <;> first | (simp at h; done) | skip
    all_goals first | exact ⟨_, _, rfl⟩ | (exfalso; injections; done) | (exfalso; simp_all; done)
theorem trod_string_cell {t : TypeId} {n : Nat} {v : Value} {y : DataW H × List MemPlace} (ht : P.underlying t = some .string) (h : DataW.trod enc P w base (fun _ => true) held n t [v] = some y) :
    ∃ z : ByteArray, v = .string z := by
  obtain ⟨z, e0, _⟩ := DataW.trod_string ht h
  exact ⟨z, by simpa using e0⟩
end

theorem fits_of {z : Int} (h : (Lit.int .i64 z).wf = true) : fits64 z := by
  have h1 : (IntKind.i64.min : Int) = -9223372036854775808 := by decide
  have h2 : (IntKind.i64.max : Int) = 9223372036854775807 := by decide
  simp [Lit.wf, h1, h2] at h
  unfold fits64
  omega

/-- a slice of events -/
theorem open_events {H : Type} {enc : TypeId × Value → H} {w : World} {base : Nat} {held : Bool} {fuel : Nat} {a0 : Option Addr} {len cap : Nat} {x : DataW H × List MemPlace}
    (h : DataW.trod enc Tryz.prog w base (fun _ => true) held fuel 22 (Value.cells (.slice a0 len cap)).toList = some x) :
    ∃ L : List Ev, L.length = len ∧ (∀ y ∈ L, y.wf) ∧ Rd w 4 (.slice a0 len cap) len (L.flatMap Ev.cells) := by
  obtain ⟨hl, hm, hi⟩ := open_structs Tryz.underlying22 Tryz.underlying24 (by kernel_rfl) (by kernel_rfl) h
  have hone : ∀ i, i < len → ∃ y : Ev, y.wf ∧ ∀ k u, y.cells[k]? = some u → ∃ ad, a0 = some ad ∧ w.cell? (ad.add (i * 4 + k)) = some u := by
    intro i hil
    obtain ⟨a, rfl, hfs⟩ := hi i hil
    obtain ⟨v0, y0, n0, c0, t0⟩ := hfs 0 _ rfl
    obtain ⟨v1, y1, n1, c1, t1⟩ := hfs 1 _ rfl
    obtain ⟨v2, y2, n2, c2, t2⟩ := hfs 2 _ rfl
    obtain ⟨v3, y3, n3, c3, t3⟩ := hfs 3 _ rfl
    obtain ⟨z0, rfl, w0⟩ := trod_int_cell Tryz.underlying3 t0
    obtain ⟨z1, rfl, w1⟩ := trod_int_cell Tryz.underlying3 t1
    obtain ⟨z2, rfl⟩ := trod_string_cell Tryz.underlying9 t2
    obtain ⟨z3, rfl, w3⟩ := trod_int_cell Tryz.underlying3 t3
    refine ⟨⟨z0, z1, z2.data.toList, z3⟩, ⟨fits_of w0, fits_of w1, fits_of w3⟩, fun k u hu => ⟨a, rfl, ?_⟩⟩
    match k, hu with
    | 0, hu => cases hu; exact c0
    | 1, hu => cases hu; exact c1
    | 2, hu => cases hu; exact c2
    | 3, hu => cases hu; exact c3
    | k + 4, hu => simp [Ev.cells] at hu
  have hup : ∀ n, n ≤ len → ∃ L : List Ev, L.length = n ∧ (∀ y ∈ L, y.wf) ∧ ∀ j u, (L.flatMap Ev.cells)[j]? = some u → ∃ ad, a0 = some ad ∧ w.cell? (ad.add j) = some u := by
    intro n
    induction n with
    | zero => intro _; exact ⟨[], rfl, by simp, by simp⟩
    | succ n ih =>
      intro hn
      obtain ⟨L, e, hw, hc⟩ := ih (by omega)
      obtain ⟨y, hy, hyc⟩ := hone n (by omega)
      refine ⟨L ++ [y], by simp [e], ?_, ?_⟩
      · intro z hz
        rcases List.mem_append.1 hz with hz | hz
        · exact hw z hz
        · rw [List.mem_singleton.1 hz]; exact hy
      · intro j u hu
        rw [List.flatMap_append] at hu
        have hfl := flat_cells L
        rw [e] at hfl
        rcases Nat.lt_or_ge j (n * 4) with hj | hj
        · rw [List.getElem?_append_left (by omega)] at hu
          exact hc j u hu
        · rw [List.getElem?_append_right (by omega), hfl] at hu
          have hu' : y.cells[j - n * 4]? = some u := by simpa using hu
          obtain ⟨ad, e1, e2⟩ := hyc _ u hu'
          refine ⟨ad, e1, ?_⟩
          rw [show n * 4 + (j - n * 4) = j from by omega] at e2
          exact e2
  obtain ⟨L, e, hw, hc⟩ := hup len (Nat.le_refl _)
  refine ⟨L, e, hw, a0, cap, rfl, hl, by rw [flat_cells, e], ?_, hc⟩
  rintro rfl
  rcases open_slice Tryz.underlying22 h with ⟨hcs, _⟩ | ⟨a, l, c, m, n, D, Pl, hcs, _⟩
  · simp [Value.cells] at hcs
    exact hcs.2
  · simp [Value.cells] at hcs

/-- what is listed -/
noncomputable def laid28 : List (String × DataW Unit) := Rows.tracePrintsRow.laid
theorem ml_of {W : World} (h : W.ShapedOpen Tryz.prog) : ∃ m, W.cell? ⟨2, 0, none⟩ = some (.int .i64 m) :=
  Go.Proofs.cell_of_shapedOpen_int (zero := #[.int .i64 0]) (t := 3) h (of_decide_eq_true (by kernel_rfl)) (by kernel_rfl) rfl (by kernel_rfl) (by kernel_rfl) Tryz.underlying3
theorem err_of {n nm : String} {d : DataW Unit} {r : List (String × DataW Unit)} {W : World} {g : Nat} (h : laidMet Tryz.prog ((n, .iface nm d) :: r) W) (hg : Tryz.prog.globalNamed n = some g) (ht : (Tryz.prog.globals[g]?).map (·.type) = some 42) :
    ∃ ev, W.cell? ⟨g, 0, none⟩ = some ev ∧ (ev = .nilIface ∨ ∃ te pe, ev = .iface te pe) := by
  obtain ⟨ps, ⟨g0, t0, cs0, f0, p0, q0, hg0, ht0, hv0, hd0, _, e0⟩, _, hrows⟩ := h
  obtain rfl := Option.some.inj (hg.symm.trans hg0)
  obtain rfl := Option.some.inj (ht.symm.trans ht0)
  obtain ⟨u, v, e⟩ := iface_of_trod Tryz.underlying42 hd0
  refine ⟨_, ?_, .inr ⟨u, v, rfl⟩⟩
  have := World.var?_cell hg0 hv0 0
  rw [this, ← Array.getElem?_toList, e]; rfl
set_option maxRecDepth 100000 in
theorem laid_of {W : World} (h : laidMet Tryz.prog laid28 W) (hs : W.ShapedOpen Tryz.prog) : Laid W := by
  have h2 := h.tail.tail
  have h4 := h2.tail.tail
  have h5 := h4.tail
  have h7 := h5.tail.tail
  exact ⟨Lib.tabIs_of_head (k := .u8) (zs := Lib.asciiSpaceTab) (g := 0) (t := 88) (e := 5) (n := 256) (by kernel_rfl) (by kernel_rfl) Tryz.underlying88 Tryz.underlying5 (by kernel_rfl) (by kernel_rfl) h7,
    Lib.tabIs_of_head (k := .u64) (zs := Lib.pow10Tab) (g := 5) (t := 282) (e := 56) (n := 20) (by kernel_rfl) (by kernel_rfl) Tryz.underlying282 Tryz.underlying56 (by kernel_rfl) (by kernel_rfl) h2,
    ml_of hs, err_of h5 (by kernel_rfl) (by kernel_rfl), err_of h4 (by kernel_rfl) (by kernel_rfl)⟩

theorem returnsInHanded_laid_shaped {H : Type} {enc : TypeId × Value → H} {a : Assume} {C : Checked} {os : Os} {f : FuncId} {fn : Func} {s : ChangeSpec} {conds : List PathCond} {apart fresh handsOn again : Bool} {X : World → Array Value → Prop}
    (hX : ∀ (w w' : World) (args : Array Value), w.heap = w'.heap → X w args → X w' args)
    (own : ownKnob C.prog.godebug = none) (started : os.Started) (noInit : C.prog.inits.idxOf? f = none) (hfn : C.prog.funcs[f]? = some fn)
    (witness : ∃ (w : World) (tape : Tape) (i : Input), w.os = os ∧ (w.forCall tape i).Shaped C.prog ∧ i.vars = [] ∧ Input.okWide C.prog (w.forCall tape i) .any w.heap.size f i ∧
      ((s.pre enc C.prog fn conds apart (w.forCall tape i).memory i.args ∧ X (w.forCall tape i).memory i.args) ∧ sizedMet enc C.prog fn (OpenSpec.ofChange s) apart (w.forCall tape i).memory i.args) ∧ a.holds C.prog (lone (Frame.enter C.prog f i.args .normal) [] (w.forCall tape i)))
    (contract : ∀ (W : World) (base : Nat) (args : Array Value) (ds gs : List (DataW H)) (before : List MemPlace),
      (∀ (j : Nat) t v, fn.params[j]? = some t → args[j]? = some v → Value.okWide C.prog W .any base t v) →
      DataW.Whole enc C.prog fn.params.toList s.vars apart W args.toList ds gs before →
      X W args → W.ShapedOpen C.prog →
      Calls C.prog f args W fun e W' => ∃ v, e = .returned v ∧ s.post enc C.prog fn apart fresh handsOn again W args v W') :
    ReturnsInHanded a C os f .any (fun w args => (s.pre enc C.prog fn conds apart w args ∧ X w args) ∧ sizedMet enc C.prog fn (OpenSpec.ofChange s) apart w args) (s.post enc C.prog fn apart fresh handsOn again) := by
  refine returnsInHanded_of_calls own started noInit witness ?_
  intro w tape i _ hsh _ hok hpre hholds
  obtain ⟨_, _, _, fn', hfn', _, _, _, _, hval⟩ := hok
  have e : fn' = fn := Option.some.inj (hfn'.symm.trans hfn)
  subst e
  obtain ⟨⟨⟨ds, gs, before, hw, hc⟩, hx⟩, hz⟩ := hpre
  have hw' := DataW.Whole.of_heap (w' := w.forCall tape i) (by rfl) hw
  refine (contract (w.forCall tape i) w.heap.size i.args ds gs before hval hw' (hX _ _ _ (by rfl) hx) hsh).mono fun e W' ⟨v, he, hp⟩ => ?_
  subst he
  exact ChangeSpec.post_blind hp
end Go.Proofs.YtcemhpdhcmlhlaaGreatDoor
