/-
  MasksPlay: the walk.
-/
import Derived.Test.YtcnnibhipjkgiaaActWrite
import Derived.Test.YtcnnibhipjkgiaaHeavy
namespace Go.Proofs.Ytcnnibhipjkgiaa
open Go.RowKit Go.Deep

variable {w0 w : World} {m r k : Nat} {L : List Rf.WV}

theorem acted (h : Duo (fun _ => False) w0 w m r (Rf.rsem (L.map (·.1))) L k) (hk : k ≤ 100000) (hL : L.length ≤ 10000) (x : Av) (hok : x.Ok) (hl : Light x) (hrd : Rd w0 1 (.slice x.a x.bs.length x.c) x.bs.length (x.bs.map .bool)) :
    Calls Try.prog 14 #[.pointer (some ⟨m, 0, none⟩), .pointer (some ⟨r, 0, none⟩), .agg #[.int .i64 x.what, .int .u64 (x.addr : Nat), .int .u64 (x.bytes : Nat), .int .i64 x.words, .slice x.a x.bs.length x.c, .int .u64 (x.n : Nat)]] w (Acted w0 w m r k L) := by
  obtain ⟨what, ad, by_, wd, bs, a, c, n⟩ := x
  obtain ⟨_, h1, h2, _, _, h5⟩ := hok
  obtain ⟨l1, l2⟩ := hl
  simp only at *
  by_cases e1 : what = 1
  · subst e1; exact act_write h hk hL ad by_ h1 h2 wd bs a c n h5 l1 hrd
  by_cases e2 : what = 2
  · subst e2; exact act_clear h hk hL ad by_ h1 h2 wd bs a c n
  by_cases e3 : what = 3
  · subst e3
    by_cases hR : ¬ Right ad by_ ∨ 1048576 < by_
    · exact act_read_no h hk ad by_ h1 h2 hR wd bs a c n
    · exact act_read h hk ad by_ h1 (by omega) (Decidable.byContradiction (fun x => hR (.inl x))) wd bs a c n
  by_cases e4 : what = 4
  · subst e4; exact act_ptrs h hk ad by_ h1 h2 wd bs a c n
  exact act_other h what ad by_ wd bs a c n e1 e2 e3 e4

theorem duo_new {w w1 : World} {m : Nat} (h : Has (fun _ => False) w w1 m (fun _ => false) 0) : Duo (fun _ => False) w (w1.alloc (.cells #[.slice none 0 0] 45)) m w1.heap.size (Rf.rsem (([] : List Rf.WV).map (·.1))) [] 0 := by
  obtain ⟨F, h1, h2⟩ := h.mine
  have f : Fr (fun _ => False) w1 (w1.alloc (.cells #[.slice none 0 0] 45)) := (Fr.refl _ _).alloc _
  have hlt := h.lt
  refine ⟨⟨F, fun _ => False, h1.quiet f, ⟨⟨none, 0, by rw [heap_alloc, if_pos rfl]; rfl, World.ownsRow_nil _ _ _ _, by simp [Value.ownBlock], by simp⟩, by simp, id, fun _ x => x.elim⟩, fun b hb => ⟨⟨(h2 b hb).1, id⟩, id, by have := h1.lt b (.inl hb); omega⟩, fun _ x => x.elim⟩,
    ⟨⟨h.root.1, id⟩, ⟨h.fr.size, id⟩, by omega, by rw [size_alloc]; omega, by rw [size_alloc]; omega⟩, fun _ x => x.elim, h.fr.trans f (fun _ _ x => x)⟩

theorem asked_ptrs (h : Duo (fun _ => False) w0 w m r (Rf.rsem (L.map (·.1))) L k) (hk : k ≤ 100000) (hL : L.length ≤ 10000) (ad by_ : Nat) (h1 : ad ≤ 18446744073709551615) (h2 : by_ ≤ 18446744073709551615) :
    Calls Try.prog 14 #[.pointer (some ⟨m, 0, none⟩), .pointer (some ⟨r, 0, none⟩), .agg #[.int .i64 4, .int .u64 (ad : Nat), .int .u64 (by_ : Nat), .int .i64 0, .slice none 0 0, .int .u64 0]] w (Acted w0 w m r k L) :=
  act_ptrs h hk ad by_ h1 h2 0 [] none 0 0

theorem asked_read (h : Duo (fun _ => False) w0 w m r (Rf.rsem (L.map (·.1))) L k) (hk : k ≤ 100000) (hL : L.length ≤ 10000) (ad by_ : Nat) (h1 : ad ≤ 18446744073709551615) (h2 : by_ ≤ 4096) (h3 : 64 ≤ ad) :
    Calls Try.prog 14 #[.pointer (some ⟨m, 0, none⟩), .pointer (some ⟨r, 0, none⟩), .agg #[.int .i64 3, .int .u64 ((ad : Int) - 64), .int .u64 ((by_ : Int) + 128), .int .i64 0, .slice none 0 0, .int .u64 0]] w (Acted w0 w m r k L) := by
  have e1 : (ad : Int) - 64 = ((ad - 64 : Nat) : Int) := by omega
  have e2 : (by_ : Int) + 128 = ((by_ + 128 : Nat) : Int) := by omega
  rw [e1, e2]
  exact acted h hk hL ⟨3, ad - 64, by_ + 128, 0, [], none, 0, 0⟩ ⟨(by decide : (Lit.int .i64 3).wf = true), by simp only; omega, by simp only; omega, (by decide : (Lit.int .i64 0).wf = true), by simp, by simp⟩ ⟨by simp, fun _ => .inl (by simp only; omega)⟩ (rd_nil w0)

set_option maxRecDepth 100000 in
set_option maxHeartbeats 4000000 in
theorem play_any (v : Value) (len : Nat) (w : World) (hv : Acts w v len) : Calls Try.prog 5 #[v] w (Law w) := by
  obtain ⟨ad, c, A, rfl, rfl, hm, hA⟩ := acts_list hv
  have HA := Lib.hid hA
  have HH := Lib.hid (heavy_any w ad c A hA hm)
  clear hv hA
  go_enter Try.func5, Try.ntmps5
  go_wp2_with fail
  refine HH.out.mono ?_
  rintro e w1 ⟨b, rfl, hb⟩
  cases b
  · have H1 := Lib.hid (hb.out.1 rfl)
    have F1 := Lib.hid hb.out.2
    have hn := H1.out.1
    clear HH hb
    have NW := Lib.hid (new_h w1 F1.out)
    go_wp2_with (first
      | (go_at_call 7; refine NW.out.mono ?_; rintro e w2 ⟨m, rfl, hm2, hf2⟩))
    have D0 := Lib.hid (duo_new hm2.out)
    obtain ⟨r, hr⟩ : ∃ r, r = w2.heap.size := ⟨_, rfl⟩
    rw [← hr] at D0 ⊢
    clear hm2 hf2 NW hr
    have n60 := hn
    clear hn
    go_loopg [5] A.length (fun kk i wr => ∃ (q : Nat) (L : List Rf.WV), i = .int .i64 q ∧ Hid (q ≤ A.length ∧ L.length ≤ q ∧ Duo (fun _ => False) w wr m r (Rf.rsem (L.map (·.1))) L (2 * q) ∧ A.length - q ≤ kk))
    case atStart => exact ⟨0, [], rfl, Lib.hid ⟨Nat.zero_le _, by simp, D0.out, Nat.le_refl _⟩⟩
    case round =>
      obtain ⟨q, L, rfl, HQ⟩ := hrel
      by_cases hlt : q < A.length
      · obtain ⟨x, hx⟩ : ∃ x, A[q]? = some x := ⟨_, List.getElem?_eq_getElem hlt⟩
        have hrd0 := (HA.out q x hx).choose_spec.choose_spec.2.2.2
        obtain ⟨b, o, rfl, ⟨c0, c1, c2, c3, c4, c5⟩, hok, hrd⟩ := (HA.out.fr HQ.out.2.2.1.fr) q x hx
        have K := Lib.hid (acted HQ.out.2.2.1 (by have := HQ.out.1; omega) (by have := HQ.out.2.1; have := HQ.out.1; omega) x hok (H1.out.2 x (List.mem_of_getElem? hx)) hrd0)
        clear hx hok hrd hrd0
        go_wp2_with (first
          | (go_at_call 14; (with_reducible refine K.out.mono ?_); rintro e w3 ⟨rfl, hk⟩))
        obtain ⟨L2, d2, hl2⟩ := hk.out
        have HK := Lib.hid (And.intro d2 hl2)
        clear d2 hl2
        go_roundg (A.length - (q + 1))
        case measure => have := HQ.out.2.2.2; omega
        case rel => exact ⟨q + 1, L2, by go_num, Lib.hid ⟨hlt, by have := HK.out.2; have := HQ.out.2.1; omega, HK.out.1.le (by omega), Nat.le_refl _⟩⟩
      · have D1 : Hid (∃ k, k ≤ 200 ∧ L.length ≤ 60 ∧ Duo (fun _ => False) w wr m r (Rf.rsem (L.map (·.1))) L k) := Lib.hid ⟨2 * q, by have := HQ.out.1; omega, by have := HQ.out.1; have := HQ.out.2.1; omega, HQ.out.2.2.1⟩
        clear HQ D0
        go_wp2_with fail
        have NW2 := Lib.hid (fun (W : World) => awake_any W)
        go_loopg [6] A.length (fun kk i wr => ∃ (q k : Nat) (L : List Rf.WV), i = .int .i64 q ∧ Hid (q ≤ A.length ∧ k ≤ 200 + 4 * q ∧ L.length ≤ 60 + 2 * q ∧ Duo (fun _ => False) w wr m r (Rf.rsem (L.map (·.1))) L k ∧ A.length - q ≤ kk))
        case atStart =>
          obtain ⟨k, h1, h2, h3⟩ := D1.out
          exact ⟨0, k, L, rfl, Lib.hid ⟨Nat.zero_le _, by omega, by omega, h3, Nat.le_refl _⟩⟩
        case round =>
          obtain ⟨q, k, L, rfl, HQ⟩ := hrel
          clear D1
          by_cases hlt : q < A.length
          · obtain ⟨x, hx⟩ : ∃ x, A[q]? = some x := ⟨_, List.getElem?_eq_getElem hlt⟩
            obtain ⟨b, o, rfl, hat, hok, _⟩ := HA.out q x hx
            have h1 := hok.addr
            have h2 := hok.bytes
            obtain ⟨what, addr, bytes, words, bs, xa, xc, n⟩ := x
            simp only at h1 h2
            have KA := Lib.hid (fun (W : World) (hf : Fr (fun _ => False) w W) => (⟨cell_through hf hat.c1 (fun x => x), cell_through hf hat.c2 (fun x => x)⟩ : W.cell? ⟨b, o + q * 6 + 1, none⟩ = some (.int .u64 (addr : Nat)) ∧ W.cell? ⟨b, o + q * 6 + 2, none⟩ = some (.int .u64 (bytes : Nat))))
            have K1 := Lib.hid (fun (W : World) (hf : Fr (fun _ => False) wr W) => asked_ptrs (HQ.out.2.2.2.1.quiet hf) (by have := HQ.out.2.1; omega) (by have := HQ.out.2.2.1; omega) addr bytes h1 h2)
            have K2 := Lib.hid (fun (W : World) (L2 : List Rf.WV) (hd : Duo (fun _ => False) w W m r (Rf.rsem (L2.map (·.1))) L2 (k + 2)) (hL2 : L2.length ≤ 10000) (h3 : bytes ≤ 4096) (h4 : 64 ≤ addr) => asked_read hd (by have := HQ.out.2.1; omega) hL2 addr bytes h1 h3 h4)
            obtain ⟨k1, k2⟩ := KA.out wr HQ.out.2.2.2.1.fr
            clear hx hat hok
            go_wp2_with fail
            go_region_held3 (fun w' => w'.cell? ⟨b, o + q * 6 + 1, none⟩ = some (.int .u64 (addr : Nat)) ∧ w'.cell? ⟨b, o + q * 6 + 2, none⟩ = some (.int .u64 (bytes : Nat))) (first | go_keep | exact KA.out _ hD3.out.2.1.fr) ((first
              | (go_at_call 14; (with_reducible refine (K1.out _ (Fr.refl _ _).drew).mono ?_); rintro e w3 ⟨rfl, hk3⟩; obtain ⟨L3, hD3⟩ : ∃ L3 : List Rf.WV, Hid (L3.length ≤ L.length + 1 ∧ Duo (fun _ => False) w w3 m r (Rf.rsem (L3.map (·.1))) L3 (k + 2) ∧ True) := ⟨_, Lib.hid ⟨hk3.out.choose_spec.2, hk3.out.choose_spec.1, True.intro⟩⟩)))
            obtain ⟨j1, j2⟩ := KA.out w3 hD3.out.2.1.fr
            have HL2 := Lib.hid (show L3.length ≤ 10000 by have := HQ.out.2.2.1; have := hD3.out.1; have := HQ.out.1; omega)
            clear K1 k1 k2
            by_cases g1 : bytes ≤ 4096
            · have g1b : decide (((bytes : Nat) : Int) ≤ 4096) = true := by simpa using (by omega : ((bytes : Nat) : Int) ≤ 4096)
              by_cases g2 : 64 ≤ addr
              · have g2b : decide ((64 : Int) ≤ ((addr : Nat) : Int)) = true := by simpa using (by omega : (64 : Int) ≤ ((addr : Nat) : Int))
                have K3 := Lib.hid (fun (W : World) hd => K2.out W L3 hd HL2.out g1 g2)
                clear K2
                have hw1 : IntKind.u64.wrap (((addr : Nat) : Int) - 64) = ((addr : Nat) : Int) - 64 := IntWalk.u64_in _ (by omega)
                have hw2 : IntKind.u64.wrap (((bytes : Nat) : Int) + 128) = ((bytes : Nat) : Int) + 128 := IntWalk.u64_in _ (by omega)
                go_wp2_with fail
                go_region_held3 (fun w' => w'.cell? ⟨b, o + q * 6 + 1, none⟩ = some (.int .u64 (addr : Nat)) ∧ w'.cell? ⟨b, o + q * 6 + 2, none⟩ = some (.int .u64 (bytes : Nat))) (first | go_keep | exact KA.out _ hD4.out.2.1.fr) ((first
                  | (go_at_call 14; (with_reducible refine (K3.out _ (hD3.out.2.1.quiet (Fr.refl _ _).drew)).mono ?_); rintro e w4 ⟨rfl, hk4⟩; obtain ⟨L4, hD4⟩ : ∃ L4 : List Rf.WV, Hid (L4.length ≤ L3.length + 1 ∧ Duo (fun _ => False) w w4 m r (Rf.rsem (L4.map (·.1))) L4 (k + 2 + 2) ∧ True) := ⟨_, Lib.hid ⟨hk4.out.choose_spec.2, hk4.out.choose_spec.1, True.intro⟩⟩)))
                go_wp2_with fail
                go_roundg (A.length - (q + 1))
                case measure => have := HQ.out.2.2.2.2; omega
                case rel => exact ⟨q + 1, k + 2 + 2, L4, by go_num, Lib.hid ⟨hlt, by have := HQ.out.2.1; omega, by have := HQ.out.2.2.1; have := hD3.out.1; have := hD4.out.1; omega, hD4.out.2.1, Nat.le_refl _⟩⟩
              · have g2b : decide ((64 : Int) ≤ ((addr : Nat) : Int)) = false := by simpa using (by omega : ((addr : Nat) : Int) < 64)
                clear K2
                go_wp2_with fail
                go_quiet (fail)
                go_wp2_with fail
                go_roundg (A.length - (q + 1))
                case measure => have := HQ.out.2.2.2.2; omega
                case rel => exact ⟨q + 1, k + 2, L3, by go_num, Lib.hid ⟨hlt, by have := HQ.out.2.1; omega, by have := HQ.out.2.2.1; have := hD3.out.1; omega, hD3.out.2.1.quiet (by repeat (first | exact Fr.refl _ _ | exact Fr.of_drewN _ _ _ | refine Fr.drew ?_)), Nat.le_refl _⟩⟩
            · have g1b : decide (((bytes : Nat) : Int) ≤ 4096) = false := by simpa using (by omega : (4096 : Int) < ((bytes : Nat) : Int))
              clear K2
              go_wp2_with fail
              go_quiet (fail)
              go_wp2_with fail
              go_roundg (A.length - (q + 1))
              case measure => have := HQ.out.2.2.2.2; omega
              case rel => exact ⟨q + 1, k + 2, L3, by go_num, Lib.hid ⟨hlt, by have := HQ.out.2.1; omega, by have := HQ.out.2.2.1; have := hD3.out.1; omega, hD3.out.2.1.quiet (by repeat (first | exact Fr.refl _ _ | exact Fr.of_drewN _ _ _ | refine Fr.drew ?_)), Nat.le_refl _⟩⟩
          · go_wp2_with (first
              | (go_at_call 11; (with_reducible refine (NW2.out _).mono ?_); rintro e w3 ⟨rfl, hf3⟩))
            go_ret
            exact ⟨rfl, HQ.out.2.2.2.1.fr.trans hf3.out (fun _ _ x => x)⟩
  · go_wp2
    go_ret
    exact ⟨rfl, hb.out.2⟩
end Go.Proofs.Ytcnnibhipjkgiaa
