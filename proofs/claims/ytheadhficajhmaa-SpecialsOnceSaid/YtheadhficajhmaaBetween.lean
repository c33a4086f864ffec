/-
  SpecialsBetween: the walk.
-/
import Derived.Test.YtheadhficajhmaaApart
namespace Go.Proofs.Ytheadhficajhmaa
open Go.RowKit Go.Deep
open Sp (cells3 cell3 lt isHd Ok)

/-- records of the call's own -/
structure Own (B s : Nat) (l : List Rec) (w0 w : World) : Prop where
  sp : Sp.Is w s l
  ok : Ok l
  fp : ∀ b, Sp.fp s l b → B ≤ b
  fr : Fr (fun b => B ≤ b) w0 w

theorem Own.none {B s : Nat} {l : List Rec} {w0 w w' : World} (h : Own B s l w0 w) (hf : Fr (fun _ => False) w w') : Own B s l w0 w' :=
  ⟨Sp.keep h.sp hf (fun _ _ x => x), h.ok, h.fp, h.fr.trans hf (fun _ _ => False.elim)⟩

/-- a record laid in, if there is none like it -/
def Added (B s : Nat) (l : List Rec) (a k d : Int) (w0 : World) (e : Ending) (w' : World) : Prop :=
  ∃ (c : Int) (l' : List Rec), e = .returned (.int .i64 c) ∧ Own B s l' w0 w' ∧ l'.length ≤ l.length + 1 ∧
    ((c = 34 ∧ l' = l ∧ ∃ q ∈ l, q.a = a ∧ q.k = k) ∨ (c = 0 ∧ (∀ q ∈ l, ¬ (q.a = a ∧ q.k = k)) ∧ ∃ xs ys b, l = xs ++ ys ∧ l' = xs ++ ⟨b, a, k, d⟩ :: ys))

theorem added {B s : Nat} {l : List Rec} {w0 w : World} (h : Own B s l w0 w) (hB : B ≤ w.heap.size) (a k d : Int) (hk : 1 ≤ k ∧ k ≤ 3) (hn : l.length ≤ 1000000) :
    Calls Try.prog 8 #[.pointer (some ⟨s, 0, none⟩), .int .u64 a, .int .i64 k, .int .u64 d] w (Added B s l a k d w0) := by
  have hsp := Sp.split l a k
  have hx := Sp.split_lt l a k
  have hy := Sp.split_head l a k
  generalize l.takeWhile (lt a k) = xs at hsp hx
  generalize l.dropWhile (lt a k) = ys at hsp hy
  have hpl := Sp.place_of (s := s) hsp hx hy
  by_cases hh : isHd ys a k = true
  · refine (Sp.add_twice a k d w h.sp hsp hpl hk.1 hk.2 hh).mono fun e w' ⟨he, hw⟩ => ?_
    subst hw
    refine ⟨34, l, he, h, by omega, .inl ⟨rfl, rfl, ?_⟩⟩
    cases ys with
    | nil => simp [isHd] at hh
    | cons q ys => exact ⟨q, by rw [hsp]; simp, by simpa [isHd] using hh⟩
  · have hh' : isHd ys a k = false := by simpa using hh
    refine (Sp.add_ok a k d w h.sp hsp hpl hk.1 hk.2 hh' (by omega)).mono fun e w' ⟨he, hi, hw⟩ => ?_
    have hall := (hsp ▸ h.ok).tail hy
    refine ⟨0, _, he, ⟨hi, ?_, fun b hb => ?_, h.fr.trans hw (fun b _ hb => h.fp b hb)⟩, by rw [hsp]; simp; omega, .inr ⟨rfl, fun q hq ⟨h1, h2⟩ => ?_, xs, ys, w.heap.size, hsp, rfl⟩⟩
    · exact Ok.ins (q := ⟨w.heap.size, a, k, d⟩) (hsp ▸ h.ok) hx hy hh' hk
    · rcases fp_ins hb with h1 | rfl
      · exact h.fp b (by rw [hsp]; exact h1)
      · exact hB
    · rw [hsp] at hq
      rcases List.mem_append.1 hq with hq | hq
      · have := Sp.lt_iff.1 (hx q hq); omega
      · cases ys with
        | nil => simp at hq
        | cons p ys =>
          rcases List.mem_cons.1 hq with rfl | hq
          · simp [isHd, h1, h2] at hh'
          · have hp := hy p ys rfl
            have ho := (hsp ▸ h.ok).sub (List.sublist_append_right xs (p :: ys))
            have h3 := (List.pairwise_cons.1 ho.ord).1 q hq
            rw [Sp.lt_false] at hp
            unfold Sp.rlt at h3
            simp only [isHd, Bool.and_eq_false_iff, beq_eq_false_iff_ne] at hh'
            omega

/-- those of a row of addresses -/
def betw (l : List Rec) (f t : Int) : List Rec := l.filter (fun r => decide (f ≤ r.a) && decide (r.a < t))

theorem between {B s : Nat} {l : List Rec} {w0 w : World} (h : Own B s l w0 w) (f t : Int) (hn : l.length ≤ 1000000) :
    Calls Try.prog 9 #[.pointer (some ⟨s, 0, none⟩), .int .u64 f, .int .u64 t] w (RetRow 49 3 (betw l f t).length (cells3 (betw l f t)) w) := by
  have hsp := Sp.split l f 0
  have hx := Sp.split_lt l f 0
  have hy := Sp.split_head l f 0
  generalize l.takeWhile (lt f 0) = xs at hsp hx
  generalize l.dropWhile (lt f 0) = ys at hsp hy
  have := Sp.between_any f t w h.sp hsp (Sp.place_of (s := s) hsp hx hy) (by omega)
  rw [← h.ok.between hsp hx hy] at this
  exact this

theorem betw_join {l : List Rec} (h : Ok l) {f c t : Int} (h1 : f ≤ c) (h2 : c ≤ t) : betw l f c ++ betw l c t = betw l f t := by
  induction l with
  | nil => rfl
  | cons r l ih =>
    have ih := ih (h.sub (List.sublist_cons_self r l))
    have hr := (List.pairwise_cons.1 h.ord).1
    unfold betw at ih ⊢
    by_cases hc : r.a < c
    · rw [List.filter_cons_of_neg (a := r) (p := fun r => decide (c ≤ r.a) && decide (r.a < t)) (by simp; omega)]
      by_cases hf : f ≤ r.a
      · rw [List.filter_cons_of_pos (by simp [hf, hc]), List.filter_cons_of_pos (by simp; omega), List.cons_append, ih]
      · rw [List.filter_cons_of_neg (by simp [hf]), List.filter_cons_of_neg (by simp [hf]), ih]
    · have hno : l.filter (fun r => decide (f ≤ r.a) && decide (r.a < c)) = [] := Sp.filter_no (fun x hx => by
        have := hr x hx
        unfold Sp.rlt at this
        simp only [Bool.and_eq_false_iff, decide_eq_false_iff_not]; omega)
      rw [hno] at ih
      rw [List.filter_cons_of_neg (a := r) (p := fun r => decide (f ≤ r.a) && decide (r.a < c)) (by simp [hc]), hno]
      by_cases ht : r.a < t
      · rw [List.filter_cons_of_pos (by simp only [Bool.and_eq_true, decide_eq_true_eq]; omega), List.filter_cons_of_pos (by simp only [Bool.and_eq_true, decide_eq_true_eq]; omega), ← ih]
        simp
      · rw [List.filter_cons_of_neg (by simp [ht]), List.filter_cons_of_neg (by simp [ht]), ← ih]

theorem betw_none (l : List Rec) (c : Int) : betw l c c = [] := Sp.filter_no (fun x _ => by simp only [Bool.and_eq_false_iff, decide_eq_false_iff_not]; omega)
theorem betw_len (l : List Rec) (f t : Int) : (betw l f t).length ≤ l.length := List.length_filter_le _ _

theorem ownsRow_cap {w : World} {B T sz n c m : Nat} {a : Option Addr} {xs : List Value} (h : w.ownsRow B T sz (.slice a m c) n xs) : n ≤ c := by
  rcases h.2 with ⟨h1, h2⟩ | ⟨g, cap, cur, hv, _, _, h2, _⟩
  · omega
  · simp only [Value.slice.injEq] at hv; omega
theorem Rd.full {w : World} {sz n c : Nat} {a : Option Addr} {xs : List Value} (h : Rd w sz (.slice a n c) n xs) : Rd w sz (.slice a n n) n xs := by
  obtain ⟨a', c', hv, hn, hl, h0, hx⟩ := h
  simp only [Value.slice.injEq] at hv
  obtain ⟨rfl, _, rfl⟩ := hv
  exact ⟨a, n, rfl, Nat.le_refl _, hl, fun e => by have := h0 e; omega, hx⟩

theorem same_j {w w' : World} {A B C : List Rec} {va va2 va3 aj : Option Addr} {c1 c2 c3 cj : Nat} (h : Rd w 3 (.slice va A.length c1) A.length (cells3 A) ∧ Rd w 3 (.slice va2 B.length c2) B.length (cells3 B) ∧ Rd w 3 (.slice va3 C.length c3) C.length (cells3 C) ∧ A ++ B = C)
    (hlen : A.length + B.length = C.length) (hC : C.length ≤ 1000000) (rdj : Rd w' 3 (.slice aj (A.length + B.length) cj) (A.length + B.length) (cells3 A ++ cells3 B)) (frj : Fr (fun _ => False) w.drew w') :
    Calls Try.prog 10 #[.slice aj (A.length + B.length) cj, .slice va3 C.length c3] w' fun e w'' => e = .returned (.bool true) ∧ ∃ k, w'' = w'.drewN k := by
  obtain ⟨_, _, r3, hABC⟩ := h
  rw [← Rf.cells3_append, hABC] at rdj
  have r3' : Rd w.drew 3 (.slice va3 C.length c3) C.length (cells3 C) := r3
  exact Rf.same_rd w' hlen rfl (by omega) rdj (r3'.fr frj (fun _ _ hf => hf))

theorem zero_at {B s : Nat} {l : List Rec} {w0 w w' w'' : World} (cut : Int) (h : Own B s l w0 w) (hf : Fr (fun _ => False) w0 w) (hn : l.length ≤ 1000000) (frj : Fr (fun _ => False) w.drew w') (hm : ∃ k, w'' = w'.drewN k) :
    Calls Try.prog 9 #[.pointer (some ⟨s, 0, none⟩), .int .u64 cut, .int .u64 cut] w'' (RetRow 49 3 0 [] w'') ∧ Fr (fun _ => False) w0 w'' := by
  obtain ⟨k, rfl⟩ := hm
  have f : Fr (fun _ => False) w (w'.drewN k) := ((Fr.refl _ w).drew.trans frj (fun _ _ hf => hf)).drewN k
  have := between (h.none f) cut cut hn
  rw [betw_none] at this
  exact ⟨this, hf.trans f (fun _ _ hf => hf)⟩

set_option maxHeartbeats 4000000 in
theorem between_said (w : World) (v : Value) (zs : List Int) (h : Ints w .u64 v zs) (cut : Int) (hc : (Lit.int .u64 cut).wf = true) : Calls Try.prog 3 #[v, .int .u64 cut] w (Law w) := by
  obtain ⟨ad, c, rfl, hl, hm, hcell, hwf⟩ := h
  by_cases h100 : 100 < zs.length
  · clear hcell hwf
    simp only [maxLen] at hm
    go_enter Try.func3, Try.ntmps3
    go_wp2
    go_ret
    exact ⟨rfl, Fr.refl _ _⟩
  · replace hcell := Lib.hid hcell
    replace hwf := Lib.hid hwf
    replace hc := Lib.hid hc
    go_enter Try.func3, Try.ntmps3
    go_wp2_with fail
    refine (Sp.new_any w).mono ?_
    rintro e w1 ⟨rfl, h1, f1⟩
    have ho : Own w.heap.size w.heap.size [] w w1 := ⟨h1, Ok.nil, fun b hb => by have := fp_nil hb; omega, f1.mono (fun _ _ => False.elim)⟩
    clear h1 f1
    go_wp2_with fail
    go_loopg [6] zs.length (fun k i wr => ∃ (j : Nat) (l : List Rec), i = .int .i64 j ∧ j + k = zs.length ∧ l.length ≤ j ∧ Own w.heap.size w.heap.size l w wr)
    case atStart => exact ⟨0, [], rfl, by simp, by simp, ho⟩
    case round =>
      obtain ⟨j, l, rfl, hj, hlj, hown⟩ := hrel
      clear ho
      by_cases hlt : j < zs.length
      · obtain ⟨z, hz⟩ : ∃ z, zs[j]? = some z := ⟨_, List.getElem?_eq_getElem hlt⟩
        obtain ⟨b, o, rfl, hcz⟩ := hcell.out j z hz
        have hcz' : wr.cell? ⟨b, o + j, none⟩ = some (.int .u64 z) := by
          rw [World.cell?_of_block (w := w) (hown.fr.same b (World.block_lt_of_cell? _ _ hcz) (by have := World.block_lt_of_cell? _ _ hcz; simp at this; omega))]; exact hcz
        have hB := hown.fr.size
        have A := Lib.hid (And.intro hj (And.intro hlj (And.intro hown hB)))
        clear hj hlj hown hB hz hcz
        go_wp2_with fail
        refine (added A.out.2.2.1 A.out.2.2.2 z (1 + (j : Int) % 3) j (by omega) (by have := A.out.2.1; omega)).mono ?_
        rintro e w2 ⟨c2, l2, rfl, ho2, hl2, _⟩
        have A2 := Lib.hid (And.intro ho2 hl2)
        clear ho2 hl2
        go_wp2
        go_roundg (gk - 1)
        case measure => have := A.out; omega
        case rel => have := A.out; have := A2.out.2; exact ⟨j + 1, l2, by go_num, by omega, by omega, A2.out.1⟩
      · have hln : l.length ≤ 1000000 := by omega
        have H := Lib.hid (And.intro hown hln)
        have hb1 := Lib.hid (between hown 0 cut hln)
        clear hj hlj hown
        go_wp2_with fail
        refine hb1.out.mono ?_
        rintro e w2 ⟨va, vc, rfl, o1, g1⟩
        have hb2 := Lib.hid (between (H.out.1.none g1) cut 18446744073709551615 hln)
        have O1 := Lib.hid o1
        have G1 := Lib.hid g1
        clear o1 g1 hb1
        go_wp2_with fail
        refine hb2.out.mono ?_
        rintro e w3 ⟨va2, vc2, rfl, o2, g2⟩
        have hb3 := Lib.hid (between ((H.out.1.none G1.out).none g2) 0 18446744073709551615 hln)
        have O2 := Lib.hid o2
        have G2 := Lib.hid g2
        clear o2 g2 hb2
        go_wp2_with fail
        refine hb3.out.mono ?_
        rintro e w4 ⟨va3, vc3, rfl, o3, g3⟩
        have hcut := Go.bounds_u64 hc.out
        have r1 : Rd w4 3 (.slice va (betw l 0 cut).length (betw l 0 cut).length) (betw l 0 cut).length (cells3 (betw l 0 cut)) :=
          (ownsRow_rd (ownsRow_fr (ownsRow_fr O1.out G2.out (fun _ => False.elim)) g3 (fun _ => False.elim))).full
        have r2 : Rd w4 3 (.slice va2 (betw l cut 18446744073709551615).length vc2) (betw l cut 18446744073709551615).length (cells3 (betw l cut 18446744073709551615)) := ownsRow_rd (ownsRow_fr O2.out g3 (fun _ => False.elim))
        have r3 := ownsRow_rd o3
        have hvc := ownsRow_cap O1.out
        have n1 := betw_len l 0 cut
        have n2 := betw_len l cut 18446744073709551615
        have n3 := betw_len l 0 18446744073709551615
        have hj := betw_join H.out.1.ok (f := 0) (c := cut) (t := 18446744073709551615) hcut.1 hcut.2
        have hF := Lib.hid (show Fr (fun _ => False) w w4 from (((H.out.1.fr.mono (fun b hb h => by omega)).trans G1.out (fun _ _ x => x)).trans G2.out (fun _ _ x => x)).trans g3 (fun _ _ x => x))
        have Own4 := Lib.hid (((H.out.1.none G1.out).none G2.out).none g3)
        generalize betw l 0 cut = A at *
        generalize betw l cut 18446744073709551615 = Bq at *
        generalize betw l 0 18446744073709551615 = C at *
        have R := Lib.hid (And.intro r1 (And.intro r2 (And.intro r3 hj)))
        obtain ⟨i0, hi, hz0, hz1, hz2⟩ := info_parts Try.infoSpecial
        have s1 := run_to3 28 49 i0 Try.underlying28 hi va A.length vc .i64 .i64 A.length A.length (Nat.le_refl _) hvc
        have s2 := run_to 28 49 i0 Try.underlying28 hi va3 C.length vc3 .i64 0 (Nat.zero_le _)
        have hC : C.length ≤ 1000000 := by omega
        have hlen := Lib.hid (show A.length + Bq.length = C.length by rw [← hj]; simp)
        clear hvc r1 r2 r3 hj O1 O2 o3 G1 G2 g3 H hcut
        have tok1 : True := trivial
        go_wp2_with fail
        go_region_held3 (fun w' => True) (trivial) ((first | (have _t := tok1; refine step_plain (by rfl) (wp_append_full _ _ 28 (by rfl) 49 i0 _ 3 24 Try.underlying28 hi hz0 hz1 hz2 (by rfl) (by decide) va A.length (cells3 A) (by rfl) R.out.1 _ Bq.length (cells3 Bq) (by rfl) R.out.2.1 (by simp only [maxLen]; omega) (by omega) ?_); intro aj cj wj rdj frj; have hs := Lib.hid (same_j R.out hlen.out hC rdj frj); clear _t tok1; have tok2 : True := trivial) | (have _t := tok2; refine step_plain (by rfl) (wp_append_zero _ _ 28 (by rfl) 49 i0 3 Try.underlying28 hi _ _ _ (by rfl) rdj va3 vc3 (by rfl) ?_); clear _t tok2) | (go_at_call 10; refine hs.out.mono ?_; rintro e w6 ⟨rfl, hm6⟩; have hz := Lib.hid (zero_at cut Own4.out hF.out hln frj hm6); clear hm6) | (go_at_call 9; refine hz.out.1.mono ?_; rintro e w7 ⟨va7, vc7, rfl, o7, g7⟩; have F7 := Lib.hid (hz.out.2.trans g7 (fun _ _ hf => hf)); clear o7 g7) | (go_at_call 11; refine (awake_any w7).mono ?_; rintro e w8 ⟨rfl, g8⟩)))
        go_wp2
        go_ret
        exact ⟨rfl, F7.out.trans g8 (fun _ _ hf => hf)⟩
end Go.Proofs.Ytheadhficajhmaa
