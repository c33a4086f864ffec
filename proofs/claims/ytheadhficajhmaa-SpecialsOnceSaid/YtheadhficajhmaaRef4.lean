/-
  The reference's Take; the comparison of two rows of records.
-/
import Derived.Test.YtheadhficajhmaaRef3
namespace Go.Proofs.Ytheadhficajhmaa
open Go.RowKit
namespace Rf
open Sp (cells3 cell3 lt isHd takeWhile_split cells3_snoc)

set_option maxHeartbeats 1000000 in
theorem take_any {r : Nat} {a : Option Addr} {c : Nat} {l xs zs vs : List Rec} (ad : Int) (w : World) (h : Is w r a c l) (hl : l = xs ++ (zs ++ vs)) (hn : l.length ≤ 1000000000)
    (hx : ∀ x ∈ xs, lt ad 0 x = true) (hz : ∀ z ∈ zs, z.a = ad ∧ 1 ≤ z.k) (hf : l.filter (fun r => r.a == ad) = zs) :
    Calls Try.prog 23 #[.pointer (some ⟨r, 0, none⟩), .int .u64 ad] w
      (RetRowI 49 3 zs.length (cells3 zs) (fun x => x = r) (fun w' => ∃ a' c', Is w' r a' c' (xs ++ vs) ∧ ∀ g, Value.ownBlock (.slice a' (xs ++ vs).length c') = some g → Value.ownBlock (.slice a l.length c) = some g ∨ w.heap.size ≤ g) w) := by
  have hof := of_any ad w h hn
  rw [hf] at hof
  replace hof := Lib.hid hof
  have hzl : zs.length ≤ 1000000000 := by rw [hl] at hn; simp at hn; omega
  have hrl := lt_blk h.root
  have H := Lib.hid (And.intro h (And.intro hl (And.intro hn (And.intro hx hz))))
  clear h hl hn hx hz hf
  go_enter Try.func23, Try.ntmps23
  go_wp2_with fail
  refine hof.out.mono ?_
  rintro e w1 ⟨va, vc, rfl, hown, hfr⟩
  have H2 := Lib.hid (And.intro hown hfr)
  clear hown hfr hof
  go_wp2_with fail
  go_loopg [6] zs.length (fun k i wr => ∃ j us : _, i = .int .i64 (j : Nat) ∧ us = zs.drop j ∧ j ≤ zs.length ∧ us.length = k ∧ (∃ a' c', Is wr r a' c' (xs ++ (us ++ vs)) ∧ ∀ g, Value.ownBlock (.slice a' (xs ++ (us ++ vs)).length c') = some g → Value.ownBlock (.slice a l.length c) = some g ∨ w.heap.size ≤ g) ∧ Fr (fun x => x = r) w1 wr)
  case atStart =>
    obtain ⟨h, hl, _⟩ := H.out
    exact ⟨0, zs, rfl, rfl, by omega, rfl, ⟨a, c, hl ▸ h.fr H2.out.2 (fun x => x) (fun _ _ x => x), fun g hg => .inl (hl ▸ hg)⟩, Fr.refl _ _⟩
  case round =>
    obtain ⟨j, us, rfl, hus, hj, hk, ⟨a', c', hi, hnear⟩, hfr⟩ := hrel
    cases us with
    | nil =>
      have hjz : j = zs.length := by
        have := congrArg List.length hus; simp at this; omega
      subst hjz
      have A := Lib.hid (And.intro hi (And.intro hfr hnear))
      clear hus hj hk hi hfr hnear
      go_wp2
      go_ret
      obtain ⟨hi, hfr, hnear⟩ := A.out
      obtain ⟨hown, hfr0⟩ := H2.out
      exact ⟨_, _, rfl, ownsRow_fr hown hfr (fun b hb => hb ▸ hrl), (show Fr (fun x => x = r) w w1 from hfr0.mono (fun _ _ => False.elim)).trans hfr (fun _ _ x => x), ⟨a', c', hi, hnear⟩⟩
    | cons q us =>
      have hq : zs[j]? = some q := by
        have : (zs.drop j)[0]? = some q := by rw [← hus]; rfl
        simpa using this
      have hlt : j < zs.length := (List.getElem?_eq_some_iff.1 hq).1
      obtain ⟨h, hl, hn, hx, hz⟩ := H.out
      have hrow := ownsRow_fr H2.out.1 hfr (fun b hb => hb ▸ hrl)
      obtain ⟨g, rfl, hg, c0, c1, c2⟩ := row_cells hrow rfl hq
      obtain ⟨hqa, hqk⟩ := hz q (List.mem_of_getElem? hq)
      have hx' : ∀ x ∈ xs, lt ad q.k x = true := by
        intro x hxm
        have := hx x hxm
        simp only [lt, Bool.or_eq_true, Bool.and_eq_true, decide_eq_true_eq, beq_iff_eq] at this ⊢
        omega
      have hlen : (xs ++ (q :: us ++ vs)).length ≤ 1000000000 := by
        have h1 : us.length + 1 ≤ zs.length := by have := congrArg List.length hus; simp at this; omega
        rw [hl] at hn; simp at hn ⊢; omega
      have hrem := Lib.hid (remove_ok (q := q) (xs := xs) (ys := us ++ vs) ad q.k wr hi rfl hx' (by simp [lt, hqa]) hlen (by simp [isHd, hqa]))
      have hsz := Nat.le_trans H2.out.2.size hfr.size
      have A := Lib.hid (And.intro hus (And.intro hk (And.intro hfr hsz)))
      clear hnear hsz hus hj hk hi hfr hq h hl hn hx hz hx' hrow hlen hqa
      go_wp2_with fail
      refine hrem.out.mono ?_
      rintro e w2 ⟨rfl, hi2, hfr2⟩
      have A2 := Lib.hid (And.intro hi2 hfr2)
      clear hrem hi2 hfr2
      go_wp2
      obtain ⟨hus, hk, hfr, hsz⟩ := A.out
      go_roundg us.length
      case measure => simp at hk; omega
      case rel =>
        obtain ⟨⟨a2, c2, hi2, hf2⟩, hfr2⟩ := A2.out
        refine ⟨j + 1, us, by go_num, ?_, by omega, rfl, ⟨a2, c2, hi2, fun g hg => .inr (Nat.le_trans hsz (hf2 g hg))⟩, hfr.trans hfr2 (fun _ _ x => x)⟩
        rw [← List.drop_drop, ← hus]; rfl

/-- the cells of the i-th record of what reads as records -/
theorem rd_cells {w : World} {n c : Nat} {a : Option Addr} {l : List Rec} (h : Rd w 3 (.slice a n c) n (cells3 l)) {i : Nat} {x : Rec} (hi : l[i]? = some x) :
    ∃ g o, a = some ⟨g, o, none⟩ ∧ w.cell? ⟨g, o + i * 3, none⟩ = some (.int .u64 x.a) ∧ w.cell? ⟨g, o + i * 3 + 1, none⟩ = some (.int .i64 x.k) ∧ w.cell? ⟨g, o + i * 3 + 2, none⟩ = some (.int .u64 x.d) := by
  obtain ⟨h0, h1, h2⟩ := get3 l i x hi
  obtain ⟨a', c', hv, _, hl, _, hx⟩ := h
  simp only [Value.slice.injEq] at hv
  obtain ⟨rfl, _, rfl⟩ := hv
  obtain ⟨ad, rfl, k0⟩ := hx _ _ h0
  obtain ⟨ad1, he1, k1⟩ := hx _ _ h1
  obtain ⟨ad2, he2, k2⟩ := hx _ _ h2
  cases he1; cases he2
  obtain ⟨z, hz⟩ : ∃ z, (cells3 l)[0]? = some z := by
    have : 0 < (cells3 l).length := Nat.lt_of_le_of_lt (Nat.zero_le _) (List.getElem?_eq_some_iff.1 h0).1
    exact ⟨_, List.getElem?_eq_getElem this⟩
  obtain ⟨ad0, he0, kz⟩ := hx _ _ hz
  cases he0
  rw [addr_add_zero] at kz
  obtain ⟨g, o, sp⟩ := ad
  obtain rfl : sp = none := World.cell?_spot kz
  have ha : ∀ k, (⟨g, o, none⟩ : Addr).add k = ⟨g, o + k, none⟩ := fun k => by unfold Addr.add; split <;> simp_all
  rw [ha] at k0 k1 k2
  exact ⟨g, o, rfl, k0, k1, k2⟩

set_option maxHeartbeats 1000000 in
theorem same_rd {n n' c c' : Nat} {a a' : Option Addr} {l : List Rec} (w : World) (hn : n = l.length) (hn' : n' = l.length) (hb : l.length ≤ 1000000000)
    (h : Rd w 3 (.slice a n c) n (cells3 l)) (h' : Rd w 3 (.slice a' n' c') n' (cells3 l)) :
    Calls Try.prog 10 #[.slice a n c, .slice a' n' c'] w fun e w' => e = .returned (.bool true) ∧ ∃ k, w' = w.drewN k := by
  subst hn hn'
  have H := Lib.hid (And.intro h h')
  clear h h'
  go_enter Try.func10, Try.ntmps10
  go_wp2_with fail
  go_loopg [5] l.length (fun k i wr => ∃ j m : Nat, i = .int .i64 j ∧ j + k = l.length ∧ wr = w.drewN m)
  case atStart => exact ⟨0, 0, rfl, by simp, rfl⟩
  case round =>
    obtain ⟨j, m, rfl, hj, rfl⟩ := hrel
    obtain ⟨h, h'⟩ := H.out
    by_cases hlt : j < l.length
    · obtain ⟨q, hq⟩ : ∃ q, l[j]? = some q := ⟨_, List.getElem?_eq_getElem hlt⟩
      obtain ⟨g, o, rfl, c0, c1, c2⟩ := rd_cells h hq
      obtain ⟨g', o', rfl, d0, d1, d2⟩ := rd_cells h' hq
      have A := Lib.hid hj
      clear h h' hq hj
      go_wp2
      go_quiet (fail)
      go_wp2
      go_roundg (gk - 1)
      case measure => have := A.out; omega
      case rel => have := A.out; exact ⟨j + 1, m + nq, by go_num, by omega, rfl⟩
    · clear h h' hj
      go_wp2
      go_ret
      exact ⟨rfl, _, rfl⟩

theorem same_true {B B' n c c' : Nat} {a a' : Option Addr} {l : List Rec} (w : World) (hn : n = l.length) (hb : l.length ≤ 1000000000)
    (h : w.ownsRow B 49 3 (.slice a n c) n (cells3 l)) (h' : w.ownsRow B' 49 3 (.slice a' n c') n (cells3 l)) :
    Calls Try.prog 10 #[.slice a n c, .slice a' n c'] w fun e w' => e = .returned (.bool true) ∧ ∃ k, w' = w.drewN k :=
  same_rd w hn hn hb (ownsRow_rd h) (ownsRow_rd h')
end Rf
end Go.Proofs.Ytheadhficajhmaa
