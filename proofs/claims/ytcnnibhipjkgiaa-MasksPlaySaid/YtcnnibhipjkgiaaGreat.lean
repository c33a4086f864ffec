/-
  MasksGreat: the walk.
-/
import Derived.Test.YtcnnibhipjkgiaaHas
import Derived.OpenShut
namespace Go.Proofs.Ytcnnibhipjkgiaa
open Go.RowKit Go.Deep

/-- the call answers true, and leaves what was there -/
def Law (w : World) (e : Ending) (w' : World) : Prop := e = .returned (.bool true) ∧ Fr (fun _ => False) w w'

theorem fm_below {bs : List Bool} (hl : 0 < bs.length) (n i : Nat) : cntTo (fmOf bs n).at i = below bs n i := by
  rw [← below_eq hl]
  exact cntTo_congr (fun j _ => by rw [fmOf_at bs hl]; rfl)

theorem below_mul {bs : List Bool} (hl : 0 < bs.length) {n k : Nat} (hk : k ≤ n) : below bs n (bs.length * k) = k * cntTo (bit bs) bs.length := by
  unfold below
  rw [Nat.mul_div_cancel_left _ hl, Nat.mul_mod_right]
  by_cases h : n ≤ k
  · rw [if_pos h]
    have : n = k := by omega
    rw [this]
  · rw [if_neg h]; simp [cntTo]

theorem cnt_over2 {a b i j : Nat} {q p : Nat → Bool} (hij : i ≤ j) (hj : a + j ≤ b) : cnt (over a b q p) (a + i) (a + j) = cnt q i j := by
  have e : cnt (over a b q p) (a + i) (a + j) = cnt (fun z => q (z - a)) (a + i) (a + j) := cnt_congr (fun z h1 h2 => by unfold over; rw [if_pos ⟨by omega, by omega⟩])
  rw [e, ← cnt_shift]
  exact cnt_congr (fun z _ _ => by rw [Nat.add_sub_cancel_left])

/-- a part of the things has its part of the pointers -/
theorem cnt_things {bs : List Bool} (hl : 0 < bs.length) {a b n i j : Nat} {p : Nat → Bool} (hij : i ≤ j) (hj : j ≤ n) (hb : a + bs.length * n = b) : cnt (over a b (fmOf bs n).at p) (a + bs.length * i) (a + bs.length * j) = (j - i) * cntTo (bit bs) bs.length := by
  rw [cnt_over2 (Nat.mul_le_mul_left _ hij) (by have := Nat.mul_le_mul_left bs.length hj; omega)]
  unfold cnt
  rw [fm_below hl, fm_below hl, below_mul hl hj, below_mul hl (by omega), Nat.sub_mul]

theorem cnt_hole {a b i j i' j' : Nat} {p : Nat → Bool} (h1 : i ≤ a) (h2 : a ≤ b) (h3 : b ≤ j) (hi : cnt p i a = i') (hj : cnt p b j = j') : cnt (over a b (fun _ => false) p) i j = i' + j' := by
  rw [cnt_split _ h1 (show a ≤ j by omega), cnt_split _ h2 h3]
  have e1 : cnt (over a b (fun _ => false) p) i a = cnt p i a := cnt_congr (fun z _ h => by unfold over; rw [if_neg (by omega)])
  have e2 : cnt (over a b (fun _ => false) p) a b = 0 := cnt_false (fun z h h' => by unfold over; rw [if_pos ⟨h, h'⟩])
  have e3 : cnt (over a b (fun _ => false) p) b j = cnt p b j := cnt_congr (fun z h _ => by unfold over; rw [if_neg (by omega)])
  rw [e1, e2, e3, hi, hj]; omega

theorem great_quo (l n : Nat) : decide ((68719476736 : Int) / ((l : Nat) : Int) < ((n : Nat) : Int)) = decide (68719476736 / l < n) := by
  have e : (68719476736 : Int) / ((l : Nat) : Int) = ((68719476736 / l : Nat) : Int) := by rw [Int.natCast_ediv]; rfl
  rw [e]
  generalize 68719476736 / l = z
  by_cases h : z < n
  · rw [decide_eq_true h, decide_eq_true (by omega)]
  · rw [decide_eq_false h, decide_eq_false (by omega)]

set_option maxRecDepth 20000 in
set_option maxHeartbeats 4000000 in
theorem great_out (w : World) (a : Option Addr) (c : Nat) (bs : List Bool) (hm : bs.length ≤ 9223372036854775807) (n cut : Nat) (hn : n ≤ 18446744073709551615) (hcut : cut ≤ 18446744073709551615)
    (hout : bs.length < 1 ∨ 1000 < bs.length ∨ n < 1 ∨ 68719476736 / bs.length < n) :
    Calls Try.prog 6 #[.slice a bs.length c, .int .u64 n, .int .u64 cut] w (Law w) := by
  by_cases h1 : bs.length < 1
  · clear hout
    go_enter Try.func6, Try.ntmps6
    go_wp2
    go_ret
    exact ⟨rfl, Fr.refl _ _⟩
  by_cases h2 : 1000 < bs.length
  · clear hout
    go_enter Try.func6, Try.ntmps6
    go_wp2
    go_ret
    exact ⟨rfl, Fr.refl _ _⟩
  by_cases h3 : n < 1
  · clear hout
    go_enter Try.func6, Try.ntmps6
    go_wp2
    go_ret
    exact ⟨rfl, Fr.refl _ _⟩
  have h4 : 68719476736 / bs.length < n := by rcases hout with h | h | h | h <;> first | exact absurd h (by assumption) | exact h
  have hq := great_quo bs.length n
  rw [decide_eq_true h4] at hq
  have q0 : ¬ bs = [] := by intro h; subst h; simp at h1
  clear hout h4
  go_enter Try.func6, Try.ntmps6
  go_wp2
  go_ret
  exact ⟨rfl, Fr.refl _ _⟩
set_option maxRecDepth 100000 in
set_option maxHeartbeats 8000000 in
theorem great_in (w : World) (a : Option Addr) (c : Nat) (bs : List Bool) (hrd : Rd w 1 (.slice a bs.length c) bs.length (bs.map .bool)) (n cut : Nat) (hn : n ≤ 18446744073709551615) (hcut : cut ≤ 18446744073709551615)
    (h1 : 1 ≤ bs.length) (h2 : bs.length ≤ 1000) (h3 : 1 ≤ n) (h4 : n ≤ 68719476736 / bs.length) :
    Calls Try.prog 6 #[.slice a bs.length c, .int .u64 n, .int .u64 cut] w (Law w) := by
  have hq := great_quo bs.length n
  rw [decide_eq_false (Nat.not_lt.2 h4)] at hq
  have q0 : ¬ bs = [] := by intro h; subst h; simp at h1
  have hl : 0 < bs.length := by omega
  have hbn : bs.length * n ≤ 68719476736 := by
    have := (Nat.le_div_iff_mul_le hl).1 h4
    rw [Nat.mul_comm]; exact this
  obtain ⟨i0, hi, hz0, hz1, hz2⟩ := info_parts Try.infoBool
  obtain ⟨E, hE⟩ : ∃ E, E = cntTo (bit bs) bs.length := ⟨_, rfl⟩
  have hEl : E ≤ bs.length := by rw [hE]; exact cntTo_le _ _
  obtain ⟨B, hB⟩ : ∃ B, B = 8 * (bs.length * n) := ⟨_, rfl⟩
  have hB2 : B ≤ 549755813888 := by omega
  have e1 : 8 * ((bs.length : Nat) : Int) * ((n : Nat) : Int) = ((B : Nat) : Int) := by rw [hB]; push_cast; rw [Int.mul_assoc]
  have hnew := Lib.hid (new_h w (Fr.refl _ w))
  have HB := Lib.hid hB
  have H := Lib.hid hrd
  have HE := Lib.hid hE
  clear hrd hB hbn h4 hE
  go_enter Try.func6, Try.ntmps6
  go_wp2_with (first
    | (go_at_call 7; refine hnew.out.mono ?_; rintro e w1 ⟨m, rfl, hm1, hf1⟩)
    | (at_builtin; refine wpList_append_rd (w0 := w1) (S := fun _ => False) rfl _ _ 22 rfl 4 i0 _ 1 1 Try.underlying22 hi hz0 hz1 hz2 rfl (by decide) _ 0 [] rfl (ownsRow_empty 1 (by rw [heap_alloc]; exact if_pos rfl) (Nat.le_refl _)) ((Fr.refl _ w1).alloc _) _ bs.length (bs.map .bool) rfl (H.out.fr (S := fun _ => False) (hf1.out.alloc _) (fun _ _ x => x)) (fun u hu => by obtain ⟨b, _, rfl⟩ := List.mem_map.1 hu; rfl) (by simp only [maxLen]; omega) (by omega) ?_))
  intro v2 w2 ho2 hf2 _
  replace ho2 : w2.ownsRow w1.heap.size 4 1 v2 bs.length (bs.map .bool) := by simpa using ho2
  obtain ⟨a2, c2, he2⟩ := ownsRow_form ho2
  subst he2
  have O2 := Lib.hid (And.intro ho2 hf2)
  clear ho2 hf2
  have hWr : Calls Try.prog 8 #[.pointer (some ⟨m, 0, none⟩), .int .u64 (1099511627776 : Nat), .int .u64 (B : Nat), .agg #[.int .i64 (bs.length : Nat), .slice a2 bs.length c2], .int .u64 (n : Nat)] w2 fun e w' =>
      e = .returned (.int .i64 0) ∧ Hid (Has (fun _ => False) w w' m (over 137438953472 (137438953472 + bs.length * n) (fmOf bs n).at (fun _ => false)) 2) := by
    have hB' := HB.out
    refine (write_h (hm1.out.quiet O2.out.2) 1099511627776 B (by omega) (by omega) (by omega) (bs.length : Nat) bs a2 c2 n hn (ownsRow_rd O2.out.1) 0 ?_).mono ?_
    · unfold wcode
      have hR : Right 1099511627776 B := by
        have : 1 ≤ bs.length * n := Nat.mul_pos hl h3
        unfold Right; omega
      rw [if_neg (by rintro (h | h | h | h); exact h hR; omega; omega; exact h rfl), if_neg (by
        rw [hB', Nat.mul_div_cancel_left _ (by decide : 0 < 8), Nat.mul_div_cancel_left _ hl]; omega)]
    · rintro e w' ⟨rfl, hh, _⟩
      rw [if_pos rfl, show 1099511627776 / 8 = 137438953472 from rfl, show (1099511627776 + B) / 8 = 137438953472 + bs.length * n by omega] at hh
      exact ⟨rfl, hh⟩
  have HWR := Lib.hid hWr
  clear hWr
  go_wp2_with (go_at_call 8; refine HWR.out.mono ?_; rintro e w3 ⟨rfl, hm3⟩)
  have HR3 : Hid (Rd w3 1 (.slice a bs.length c) bs.length (bs.map .bool)) := Lib.hid (H.out.fr (S := fun _ => False) hm3.out.fr (fun _ _ x => x))
  go_loopg [9, 10] bs.length (fun kk x i wr => wr = w3 ∧ ∃ q : Nat, i = .int .i64 q ∧ x = .int .u64 (cntTo (bit bs) q : Nat) ∧ Hid (q ≤ bs.length ∧ bs.length - q ≤ kk))
  case atStart => exact ⟨rfl, 0, rfl, rfl, Lib.hid ⟨Nat.zero_le _, by omega⟩⟩
  case round =>
    obtain ⟨rfl, q, rfl, rfl, HQ⟩ := hrel
    have hq2 := HQ.out.1
    by_cases hlt : q < bs.length
    · obtain ⟨mb, mo, rfl, hcm⟩ := rd_at HR3.out (bools_get hlt)
      have hcl := cntTo_le (bit bs) q
      have S : Hid (cntTo (bit bs) (q + 1) = cntTo (bit bs) q + if bit bs q then 1 else 0) := Lib.hid rfl
      cases hbit : bit bs q with
      | true =>
        rw [hbit] at hcm
        have HBt := Lib.hid hbit
        clear hbit
        go_wp2_with fail
        go_roundg (bs.length - (q + 1))
        case measure => have := HQ.out.2; omega
        case rel => exact ⟨rfl, q + 1, by go_num, by rw [S.out, HBt.out]; go_num, Lib.hid ⟨hlt, Nat.le_refl _⟩⟩
      | false =>
        rw [hbit] at hcm
        have HBt := Lib.hid hbit
        clear hbit
        go_wp2_with fail
        go_roundg (bs.length - (q + 1))
        case measure => have := HQ.out.2; omega
        case rel => exact ⟨rfl, q + 1, by go_num, by rw [S.out, HBt.out]; go_num, Lib.hid ⟨hlt, Nat.le_refl _⟩⟩
    · have hqe : q = bs.length := by omega
      rw [hqe, ← HE.out]
      have haw := Lib.hid (fun (W : World) => awake_any W)
      obtain ⟨k, hk⟩ : ∃ k, k = cut % n := ⟨_, rfl⟩
      have hkn : k < n := by rw [hk]; exact Nat.mod_lt _ (by omega)
      have e3 : ((cut : Nat) : Int) % ((n : Nat) : Int) = ((k : Nat) : Int) := by rw [hk, Int.natCast_emod]
      have hBv := HB.out
      have hbn : bs.length * n ≤ 68719476736 := by omega
      obtain ⟨N1, hN1⟩ : ∃ N, N = n * E := ⟨_, rfl⟩
      have e4 : ((n : Nat) : Int) * ((E : Nat) : Int) = ((N1 : Nat) : Int) := by rw [hN1]; push_cast; rfl
      have hN1b : N1 ≤ 68719476736 := by rw [hN1]; exact Nat.le_trans (Nat.mul_le_mul_left n hEl) (by rw [Nat.mul_comm]; exact hbn)
      have P0 := Lib.hid (ptrs_h hm3.out 1099511627776 B (by omega) (by omega) (by omega) (by
        have : 1 ≤ bs.length * n := Nat.mul_pos hl h3
        unfold Right; omega) N1 (by
        rw [show 1099511627776 / 8 = 137438953472 + bs.length * 0 from by omega, show (1099511627776 + B) / 8 = 137438953472 + bs.length * n by omega, cnt_things hl (Nat.zero_le _) (Nat.le_refl _) rfl, ← HE.out, hN1]; rfl))
      by_cases hk0 : k = 0
      · subst hk0
        clear hk hBv hbn hN1
        go_wp2_with (first
          | (go_at_call 10; refine P0.out.mono ?_; rintro e w4 ⟨rfl, hf4⟩)
          | (go_at_call 11; refine (haw.out _).mono ?_; rintro e w5 ⟨rfl, hf5⟩))
        go_ret
        exact ⟨rfl, (hm3.out.fr.trans hf4.out (fun _ _ x => x)).trans hf5.out (fun _ _ x => x)⟩
      · have hk1 : 1 ≤ k := by omega
        have f1 : bs.length * k ≤ bs.length * n := Nat.mul_le_mul_left _ (by omega)
        have f2 : bs.length * k = bs.length * (k - 1) + bs.length := by
          conv => lhs; rw [show k = (k - 1) + 1 by omega]
          rw [Nat.mul_add, Nat.mul_one]
        have f3 : bs.length * n = bs.length * k + bs.length * (n - k) := by rw [← Nat.mul_add]; congr 1; omega
        obtain ⟨C, hC⟩ : ∃ N, N = 8 * (bs.length * k) := ⟨_, rfl⟩
        obtain ⟨D, hD⟩ : ∃ N, N = 8 * (bs.length * (n - k)) := ⟨_, rfl⟩
        obtain ⟨G, hG⟩ : ∃ N, N = 8 * (bs.length * (k - 1)) := ⟨_, rfl⟩
        obtain ⟨EK, hEK⟩ : ∃ N, N = k * E := ⟨_, rfl⟩
        obtain ⟨NK, hNK⟩ : ∃ N, N = (n - k) * E := ⟨_, rfl⟩
        obtain ⟨N3, hN3⟩ : ∃ N, N = (n - 1) * E := ⟨_, rfl⟩
        have e5 : 8 * ((bs.length : Nat) : Int) * ((k : Nat) : Int) = ((C : Nat) : Int) := by rw [hC]; push_cast; rw [Int.mul_assoc]
        have e6 : 8 * ((bs.length : Nat) : Int) * (((n : Nat) : Int) - ((k : Nat) : Int)) = ((D : Nat) : Int) := by rw [hD, ← Int.ofNat_sub (by omega)]; push_cast; rw [Int.mul_assoc]
        have e8 : 8 * ((bs.length : Nat) : Int) * (((k : Nat) : Int) - 1) = ((G : Nat) : Int) := by
          have : (((k : Nat) : Int) - 1) = ((k - 1 : Nat) : Int) := by omega
          rw [hG, this]; push_cast; rw [Int.mul_assoc]
        have e9 : ((k : Nat) : Int) * ((E : Nat) : Int) = ((EK : Nat) : Int) := by rw [hEK]; push_cast; rfl
        have e10 : (((n : Nat) : Int) - ((k : Nat) : Int)) * ((E : Nat) : Int) = ((NK : Nat) : Int) := by rw [hNK, ← Int.ofNat_sub (by omega)]; push_cast; rfl
        have e11 : (((n : Nat) : Int) - 1) * ((E : Nat) : Int) = ((N3 : Nat) : Int) := by
          have : (((n : Nat) : Int) - 1) = ((n - 1 : Nat) : Int) := by omega
          rw [hN3, this]; push_cast; rfl
        have b1 : C ≤ 549755813888 := by omega
        have b2 : D ≤ 549755813888 := by omega
        have b3 : G ≤ 549755813888 := by omega
        have b4 : EK ≤ 68719476736 := by rw [hEK]; exact Nat.le_trans (Nat.mul_le_mul_right E (by omega : k ≤ n)) (by rw [← hN1]; exact hN1b)
        have b5 : NK ≤ 68719476736 := by rw [hNK]; exact Nat.le_trans (Nat.mul_le_mul_right E (by omega : n - k ≤ n)) (by rw [← hN1]; exact hN1b)
        have b6 : N3 ≤ 68719476736 := by rw [hN3]; exact Nat.le_trans (Nat.mul_le_mul_right E (by omega : n - 1 ≤ n)) (by rw [← hN1]; exact hN1b)
        have hk2 : 1 ≤ bs.length * k := Nat.mul_pos hl hk1
        have hk3 : 1 ≤ bs.length * (n - k) := Nat.mul_pos hl (by omega)
        have P1 := Lib.hid (fun (W : World) (hW : Fr (fun _ => False) wr W) => ptrs_h (hm3.out.quiet hW) 1099511627776 C (by omega) (by omega) (by omega) (by unfold Right; omega) EK (by
          rw [show 1099511627776 / 8 = 137438953472 + bs.length * 0 from by omega, show (1099511627776 + C) / 8 = 137438953472 + bs.length * k by omega, cnt_things hl (Nat.zero_le _) (by omega) rfl, ← HE.out, hEK]; rfl))
        have P2 := Lib.hid (fun (W : World) (hW : Fr (fun _ => False) wr W) => ptrs_h (hm3.out.quiet hW) (1099511627776 + C) D (by omega) (by omega) (by omega) (by unfold Right; omega) NK (by
          rw [show (1099511627776 + C) / 8 = 137438953472 + bs.length * k from by omega, show (1099511627776 + C + D) / 8 = 137438953472 + bs.length * n by omega, cnt_things hl (by omega) (Nat.le_refl _) rfl, ← HE.out, hNK]))
        have CL := Lib.hid (fun (W : World) (hW : Fr (fun _ => False) wr W) => clear_h (hm3.out.quiet hW) (1099511627776 + G) (8 * bs.length) (by omega) (by omega) (by omega) (by unfold Right; omega))
        have P3 := Lib.hid (fun (W : World) (hW : Has (fun _ => False) w W m (over ((1099511627776 + G) / 8) ((1099511627776 + G + 8 * bs.length) / 8) (fun _ => false) (over 137438953472 (137438953472 + bs.length * n) (fmOf bs n).at (fun _ => false))) 4) => ptrs_h hW 1099511627776 B (by omega) (by omega) (by omega) (by unfold Right; omega) N3 (by
          rw [show 1099511627776 / 8 = 137438953472 + bs.length * 0 from by omega, show (1099511627776 + B) / 8 = 137438953472 + bs.length * n by omega, show (1099511627776 + G) / 8 = 137438953472 + bs.length * (k - 1) by omega, show (1099511627776 + G + 8 * bs.length) / 8 = 137438953472 + bs.length * k by omega,
            cnt_hole (by omega) (by omega) (by omega) (cnt_things hl (Nat.zero_le _) (by omega) rfl) (cnt_things hl (by omega) (Nat.le_refl _) rfl), ← HE.out, hN3, ← Nat.add_mul]
          congr 1; omega))
        clear hk hBv hbn hN1 hC hD hG hEK hNK hN3 f1 f2 f3 hk2 hk3
        go_wp2_with (first
          | (go_at_call 11; refine (haw.out _).mono ?_; rintro e w9 ⟨rfl, hf9⟩)
          | (go_at_call 10; refine (P3.out w7 hm7.out).mono ?_; rintro e w8 ⟨rfl, hf8⟩)
          | (go_at_call 15; refine (CL.out w6 ((hf4.out.trans hf5.out (fun _ _ x => x)).trans hf6.out (fun _ _ x => x))).mono ?_; rintro e w7 ⟨rfl, hm7, hf7⟩)
          | (go_at_call 10; refine (P2.out w5 (hf4.out.trans hf5.out (fun _ _ x => x))).mono ?_; rintro e w6 ⟨rfl, hf6⟩)
          | (go_at_call 10; refine (P1.out w4 hf4.out).mono ?_; rintro e w5 ⟨rfl, hf5⟩)
          | (go_at_call 10; refine P0.out.mono ?_; rintro e w4 ⟨rfl, hf4⟩))
        go_ret
        exact ⟨rfl, (hm7.out.fr.trans hf8.out (fun _ _ x => x)).trans hf9.out (fun _ _ x => x)⟩
theorem nat_of_u64 {z : Int} (h : (Lit.int .u64 z).wf = true) : ∃ n : Nat, z = (n : Nat) ∧ n ≤ 18446744073709551615 := by
  have h1 := Go.bounds_u64 h
  exact ⟨z.toNat, by omega, by omega⟩

theorem great_said (w : World) (a : Option Addr) (c : Nat) (bs : List Bool) (hrd : Rd w 1 (.slice a bs.length c) bs.length (bs.map .bool)) (hm : bs.length ≤ 9223372036854775807) (z1 : Int) (w1 : (Lit.int .u64 z1).wf = true) (z2 : Int) (w2 : (Lit.int .u64 z2).wf = true) :
    Calls Try.prog 6 #[.slice a bs.length c, .int .u64 z1, .int .u64 z2] w (Law w) := by
  obtain ⟨n, rfl, hn⟩ := nat_of_u64 w1
  obtain ⟨cut, rfl, hc⟩ := nat_of_u64 w2
  by_cases h : bs.length < 1 ∨ 1000 < bs.length ∨ n < 1 ∨ 68719476736 / bs.length < n
  · exact great_out w a c bs hm n cut hn hc h
  · have h1 : ¬ bs.length < 1 := fun x => h (.inl x)
    have h2 : ¬ 1000 < bs.length := fun x => h (.inr (.inl x))
    have h3 : ¬ n < 1 := fun x => h (.inr (.inr (.inl x)))
    have h4 : ¬ 68719476736 / bs.length < n := fun x => h (.inr (.inr (.inr x)))
    exact great_in w a c bs hrd n cut hn hc (by omega) (by omega) (by omega) (Nat.not_lt.1 h4)
end Go.Proofs.Ytcnnibhipjkgiaa
