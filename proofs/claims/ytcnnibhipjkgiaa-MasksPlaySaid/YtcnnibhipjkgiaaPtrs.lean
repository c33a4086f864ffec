/-
  Pointers: the walk.
-/
import Derived.Test.YtcnnibhipjkgiaaGo
namespace Go.Proofs.Ytcnnibhipjkgiaa
open Go.RowKit Go.Deep

theorem cnt_sem {P : List Pc} {p : Nat → Bool} (h : ∀ z, sem P z = p z) (i j : Nat) : cnt (sem P) i j = cnt p i j := cnt_congr (fun z _ _ => h z)

set_option maxRecDepth 20000 in
set_option maxHeartbeats 2000000 in
theorem pointers_is {F : Nat → Prop} {m : Nat} {L : List PV} (w : World) (h : Is w m L F) (addr bytes : Nat) (ha : addr ≤ 18446744073709551615) (hb : bytes ≤ 18446744073709551615) (hk : L.length ≤ 1000000) (hR : Right addr bytes) :
    Calls Try.prog 10 #[.pointer (some ⟨m, 0, none⟩), .int .u64 addr, .int .u64 bytes] w fun e w' =>
      e = .returned (.tuple #[.int .u64 (cnt (sem (L.map (·.1))) (addr / 8) ((addr + bytes) / 8) : Nat), .int .i64 0]) ∧ Hid (Fr (fun _ => False) w w') := by
  have hr := Lib.hid (right_any w addr bytes ha hb)
  have hd : decide (Right addr bytes) = true := by simpa using hR
  rw [hd] at hr
  obtain ⟨r1, r2, r3, r4⟩ := right_words hR
  obtain ⟨fr, hfr⟩ : ∃ fr, fr = addr / 8 := ⟨_, rfl⟩
  obtain ⟨tt, htt⟩ : ∃ tt, tt = (addr + bytes) / 8 := ⟨_, rfl⟩
  have d1 : ((addr : Nat) : Int) / 8 = ((fr : Nat) : Int) := by omega
  have d2 : (((addr : Nat) : Int) + ((bytes : Nat) : Int)) / 8 = ((tt : Nat) : Int) := by omega
  rw [← hfr, ← htt]
  rw [← hfr, ← htt] at r1
  rw [← htt] at r2
  have hat := Lib.hid (at_any w h fr hk)
  have H := Lib.hid h
  clear hfr htt hR hd h
  go_enter Try.func10, Try.ntmps10
  go_wp2_with (first | (go_at_call 16; refine hr.out.mono ?_; rintro e w1 ⟨rfl, rfl⟩) | (go_at_call 19; refine hat.out.mono ?_; rintro e w1 ⟨r, rfl, hr2, hf1⟩))
  clear d1 d2 hr ha hb
  go_loopg [10, 11] L.length (fun kk n i wr => ∃ (q e : Nat), i = .int .i64 q ∧ n = .int .u64 (cnt (sem (L.map (·.1))) fr e : Nat) ∧ Hid (Fr (fun _ => False) w wr ∧ Going L fr tt e q ∧ L.length - q ≤ kk))
  case atStart =>
    exact ⟨r, fr, rfl, by rw [cnt_self]; rfl, Lib.hid ⟨hf1.out, Going.start (by omega) hr2.out.2.1 hr2.out.2.2, by omega⟩⟩
  case round =>
    obtain ⟨q, e, rfl, rfl, HG⟩ := hrel
    obtain ⟨al, cl, hp, hle, hpc⟩ := (H.out.quiet HG.out.1).piece
    have hce := cnt_le (sem (L.map (·.1))) fr e
    have hge := HG.out.2.1.hi
    have hc1 : cnt (sem (L.map (·.1))) fr e ≤ 35184372088832 := by omega
    clear hce hge
    by_cases hlt : q < L.length
    · obtain ⟨x, hxi⟩ : ∃ x, L[q]? = some x := ⟨_, List.getElem?_eq_getElem hlt⟩
      have hxf := (H.out.quiet HG.out.1).forms x (List.mem_of_getElem? hxi)
      have hok := rows_ok H.out.rows hxi
      obtain ⟨tx, ux, hux⟩ := form_iface hxf
      by_cases hin : x.1.from_ < tt
      · have GN := fun e' he => HG.out.2.1.next (e' := e') H.out.rows hxi hin r1 he
        have GC := fun lo hi h1 h2 => HG.out.2.1.count (lo := lo) (hi := hi) H.out.rows hxi hin r1 h1 h2
        obtain ⟨⟨xa, xb, xo, xm⟩, xv⟩ := x
        simp only at hux hxf hok hin GN GC
        subst hux
        obtain ⟨pb, po, rfl, hFb, c0, c1, c2, c3⟩ := hpc _ _ hxi
        simp only at c0 c1 c2 c3
        obtain ⟨lo, hlo⟩ : ∃ lo, (xa < fr ∧ lo = fr) ∨ (¬ xa < fr ∧ lo = xa) := by
          by_cases h : xa < fr
          · exact ⟨fr, .inl ⟨h, rfl⟩⟩
          · exact ⟨xa, .inr ⟨h, rfl⟩⟩
        obtain ⟨hi, hhi⟩ : ∃ hi, (tt < xb ∧ hi = tt) ∨ (¬ tt < xb ∧ hi = xb) := by
          by_cases h : tt < xb
          · exact ⟨tt, .inl ⟨h, rfl⟩⟩
          · exact ⟨xb, .inr ⟨h, rfl⟩⟩
        have GN := GN hi (by split <;> omega)
        obtain ⟨g1, g2, g3, g4⟩ := GC lo hi (by split <;> omega) (by split <;> omega)
        obtain ⟨s1, hs1⟩ : ∃ s, s = lo - xo := ⟨_, rfl⟩
        obtain ⟨s2, hs2⟩ : ∃ s, s = hi - xo := ⟨_, rfl⟩
        have z1 : ((lo : Nat) : Int) - ((xo : Nat) : Int) = ((s1 : Nat) : Int) := by omega
        have z2 : ((hi : Nat) : Int) - ((xo : Nat) : Int) = ((s2 : Nat) : Int) := by omega
        have z3 : s1 ≤ 35184372088832 := by omega
        have z4 : s2 ≤ 35184372088832 := by omega
        have z5 : s1 ≤ s2 := by omega
        rw [← hs1, ← hs2] at g1
        have hc2 : cnt xm.at s1 s2 ≤ 35184372088832 := Nat.le_trans (cnt_le _ _ _) (by omega)
        have HA := Lib.hid (fun (W : World) (hW : Fr (fun _ => False) wr W) => form_count (hxf.fr hW (fun _ _ x => x)) s1 s2 z5 z4)
        have GG := Lib.hid (And.intro g1 GN)
        clear g1 GN GC hxi hle hxf hs1 hs2 hFb hpc z5
        rcases hlo with ⟨ha1, rfl⟩ | ⟨ha1, rfl⟩ <;> rcases hhi with ⟨hb1, rfl⟩ | ⟨hb1, rfl⟩
        all_goals (
          go_wp2_with (refine wpList_invoke2 rfl _ _ _ "mallow/masks.count" #[23, 23] rfl rfl rfl rfl (HA.out _ ((Fr.refl _ wr).alloc _)) ?_; intro w2 hf2; have HF2 := Lib.hid hf2; clear hf2)
          go_roundg (L.length - (q + 1))
          case measure => have := HG.out.2.2; omega
          case rel => exact ⟨q + 1, _, by go_num, by rw [GG.out.1]; go_num, Lib.hid ⟨(HG.out.1.trans ((Fr.refl (fun _ => False) wr).alloc _) (fun _ _ x => x)).trans HF2.out (fun _ _ x => x), GG.out.2, Nat.le_refl _⟩⟩)
      · obtain ⟨pb, po, rfl, hFb, c0, c1, c2, c3⟩ := hpc _ _ hxi
        have GA := Lib.hid (HG.out.2.1.all H.out.rows (fun y hy => by rw [hxi] at hy; cases hy; omega))
        clear hpc hxi hxf hle hFb hux
        go_wp2_with fail
        go_ret2
        exact ⟨by rw [GA.out]; rfl, Lib.hid HG.out.1⟩
    · have GA := Lib.hid (HG.out.2.1.all H.out.rows (fun y hy => by have := (List.getElem?_eq_some_iff.1 hy).1; omega))
      clear hpc hle
      go_wp2_with fail
      go_ret2
      exact ⟨by rw [GA.out]; rfl, Lib.hid HG.out.1⟩
set_option maxHeartbeats 1000000 in
theorem pointers_no (m : Nat) (w : World) (addr bytes : Nat) (ha : addr ≤ 18446744073709551615) (hb : bytes ≤ 18446744073709551615) (hR : ¬ Right addr bytes) :
    Calls Try.prog 10 #[.pointer (some ⟨m, 0, none⟩), .int .u64 addr, .int .u64 bytes] w fun e w' => e = .returned (.tuple #[.int .u64 0, .int .i64 1]) ∧ w = w' := by
  have hr := Lib.hid (right_any w addr bytes ha hb)
  have hd : decide (Right addr bytes) = false := by simpa using hR
  rw [hd] at hr
  clear hR hd
  go_enter Try.func10, Try.ntmps10
  go_wp2_with (first | (go_at_call 16; refine hr.out.mono ?_; rintro e w1 ⟨rfl, rfl⟩))
  go_ret2
  exact ⟨rfl, rfl⟩

theorem pointers_any {F : Nat → Prop} {m k : Nat} {p : Nat → Bool} (w : World) (h : Mine w m p k F) (addr bytes : Nat) (ha : addr ≤ 18446744073709551615) (hb : bytes ≤ 18446744073709551615) (hk : k ≤ 1000000) :
    Calls Try.prog 10 #[.pointer (some ⟨m, 0, none⟩), .int .u64 addr, .int .u64 bytes] w fun e w' =>
      e = .returned (.tuple #[.int .u64 ((if Right addr bytes then cnt p (addr / 8) ((addr + bytes) / 8) else 0 : Nat) : Nat), .int .i64 (if Right addr bytes then 0 else 1)]) ∧ Hid (Fr (fun _ => False) w w') := by
  obtain ⟨L, h1, h2, h3⟩ := h
  by_cases hR : Right addr bytes
  · rw [if_pos hR, if_pos hR, ← cnt_sem h3]
    exact pointers_is w h1 addr bytes ha hb (by omega) hR
  · rw [if_neg hR, if_neg hR]
    refine (pointers_no m w addr bytes ha hb hR).mono ?_
    rintro e w' ⟨rfl, rfl⟩
    exact ⟨rfl, Lib.hid (Fr.refl _ _)⟩
end Go.Proofs.Ytcnnibhipjkgiaa
