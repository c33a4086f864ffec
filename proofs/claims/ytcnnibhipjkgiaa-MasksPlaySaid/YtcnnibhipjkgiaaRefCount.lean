/-
  The reference: count, Pointers.
-/
import Derived.Test.YtcnnibhipjkgiaaRefWord
namespace Go.Proofs.Ytcnnibhipjkgiaa.Rf
open Go.RowKit Go.Deep

def Counted (w : World) (z : Nat) (e : Ending) (w' : World) : Prop := e = .returned (.int .u64 (z : Nat)) ∧ Hid (Fr (fun _ => False) w w')

theorem cnt_empty (p : Nat → Bool) {i j : Nat} (h : j ≤ i) : cnt p i j = 0 := by have := cnt_le p i j; omega

/-- a writing that does not reach the words -/
theorem cnt_skip {p : Nat → Bool} {x : Wt} {i j : Nat} (h : ∀ z, i ≤ z → z < j → ¬ (x.addr / 8 ≤ z ∧ z < (x.addr + x.bytes) / 8)) : cnt (step p x) i j = cnt p i j := cnt_congr (fun z h1 h2 => step_out (h z h1 h2))
/-- within a writing -/
theorem cnt_in {p : Nat → Bool} {x : Wt} {i j : Nat} (h1 : x.addr / 8 ≤ i) (h2 : j ≤ (x.addr + x.bytes) / 8) (hij : i ≤ j) : cnt (step p x) i j = cntTo (fmOf x.bs x.n).at (j - x.addr / 8) - cntTo (fmOf x.bs x.n).at (i - x.addr / 8) := by
  rw [cnt_congr (q := fun z => (fmOf x.bs x.n).at (z - x.addr / 8)) (fun z h3 h4 => step_in ⟨by omega, by omega⟩)]
  have h := cnt_shift (fun z => (fmOf x.bs x.n).at (z - x.addr / 8)) (x.addr / 8) (i - x.addr / 8) (j - x.addr / 8)
  rw [show x.addr / 8 + (i - x.addr / 8) = i by omega, show x.addr / 8 + (j - x.addr / 8) = j by omega] at h
  rw [← h]
  have e : (fun y => (fmOf x.bs x.n).at (x.addr / 8 + y - x.addr / 8)) = (fmOf x.bs x.n).at := by funext y; rw [Nat.add_sub_cancel_left]
  rw [e]; rfl

set_option maxRecDepth 20000 in
set_option maxHeartbeats 8000000 in
theorem count_any {F : Nat → Prop} {r : Nat} {L : List WV} (n : Nat) : ∀ (w : World) (i j : Nat), Is w r L F → n ≤ L.length → i ≤ 35184372088832 → j ≤ 35184372088832 →
    Calls Try.prog 28 #[.pointer (some ⟨r, 0, none⟩), .int .u64 ((8 * i : Nat) : Nat), .int .u64 ((8 * j : Nat) : Nat), .int .i64 (n : Nat)] w (Counted w (cnt (rsem ((L.map (·.1)).take n)) i j)) := by
  induction n with
  | zero =>
    intro w i j h hn hi hj
    have e0 : cnt (rsem ((L.map (·.1)).take 0)) i j = 0 := cnt_false (fun _ _ _ => rfl)
    rw [e0]
    obtain ⟨A, hA⟩ : ∃ A, A = 8 * i := ⟨_, rfl⟩
    obtain ⟨B, hB⟩ : ∃ B, B = 8 * j := ⟨_, rfl⟩
    rw [← hA, ← hB]
    have hA2 : A ≤ 281474976710656 := by omega
    have hB2 : B ≤ 281474976710656 := by omega
    clear hA hB h e0
    by_cases g : B ≤ A
    all_goals
      go_enter Try.func28, Try.ntmps28
      go_wp2_with fail
      go_ret
      exact ⟨rfl, Lib.hid (Fr.refl _ _)⟩
  | succ n ih =>
    intro w i j h hn hi hj
    by_cases g : j ≤ i
    · rw [cnt_empty _ g]
      obtain ⟨A, hA⟩ : ∃ A, A = 8 * i := ⟨_, rfl⟩
      obtain ⟨B, hB⟩ : ∃ B, B = 8 * j := ⟨_, rfl⟩
      rw [← hA, ← hB]
      have hA2 : A ≤ 281474976710656 := by omega
      have hB2 : B ≤ 281474976710656 := by omega
      have g2 : B ≤ A := by omega
      clear hA hB h g ih
      go_enter Try.func28, Try.ntmps28
      go_wp2_with fail
      go_ret
      exact ⟨rfl, Lib.hid (Fr.refl _ _)⟩
    · obtain ⟨a, c, hp, hle, hc, hL⟩ := h.head
      have hlen : L.length ≤ 9223372036854775807 := by omega
      obtain ⟨x, hxi⟩ : ∃ x, L[n]? = some x := ⟨_, List.getElem?_eq_getElem (by omega)⟩
      obtain ⟨b, o, rfl, c0, c1, c2, c3, c4, hok, a', c', hx2, hm⟩ := hL n x hxi
      have ST : rsem ((L.map (·.1)).take (n + 1)) = step (rsem ((L.map (·.1)).take n)) x.1 := rsem_take (by rw [List.getElem?_map, hxi]; rfl)
      rw [ST]
      have hnl : n < L.length := by omega
      have HM := Lib.hid hm.1
      have HOK := Lib.hid hok
      have IH := Lib.hid (fun (W : World) (hW : Fr (fun _ => False) w W) (i j : Nat) (hi : i ≤ 35184372088832) (hj : j ≤ 35184372088832) => ih W i j (h.quiet hW) (by omega) hi hj)
      obtain ⟨⟨ad, by_, bs, N⟩, xv⟩ := x
      simp only at c0 c1 c2 c3 c4 hx2 HM HOK
      subst hx2
      have hR := HOK.out.1
      simp only at hR
      obtain ⟨hRa, hRb, hRc, hRd, hRe, hRf⟩ := id hR
      obtain ⟨A, hA⟩ : ∃ A, A = 8 * i := ⟨_, rfl⟩
      obtain ⟨B, hB⟩ : ∃ B, B = 8 * j := ⟨_, rfl⟩
      obtain ⟨E, hE⟩ : ∃ E, E = ad + by_ := ⟨_, rfl⟩
      obtain ⟨p, hp'⟩ : ∃ p, p = rsem ((L.map (·.1)).take n) := ⟨_, rfl⟩
      rw [← hp'] at IH ⊢
      rw [← hA, ← hB]
      have g2 : ¬ B ≤ A := by omega
      have hA2 : A ≤ 281474976710656 := by omega
      have hB2 : B ≤ 281474976710656 := by omega
      have hE2 : E ≤ 281474976710656 := by omega
      have k1 : ((ad : Nat) : Int) + ((by_ : Nat) : Int) = ((E : Nat) : Int) := by omega
      have k2 : ((n + 1 : Nat) : Int) - 1 = ((n : Nat) : Int) := by omega
      have k3 : ¬ ((n + 1 : Nat) : Int) = 0 := by omega
      have k4 : (((n + 1 : Nat) : Int) == 0) = false := by rw [beq_eq_false_iff_ne]; omega
      -- what the ends are
      obtain ⟨s, hs⟩ : ∃ s, (ad < A ∧ A = s) ∨ (¬ ad < A ∧ ad = s) := by
        by_cases h : ad < A
        · exact ⟨A, .inl ⟨h, rfl⟩⟩
        · exact ⟨ad, .inr ⟨h, rfl⟩⟩
      obtain ⟨t, ht⟩ : ∃ t, (B < E ∧ B = t) ∨ (¬ B < E ∧ E = t) := by
        by_cases h : B < E
        · exact ⟨B, .inl ⟨h, rfl⟩⟩
        · exact ⟨E, .inr ⟨h, rfl⟩⟩
      have hst : ∃ si ti, s = 8 * si ∧ t = 8 * ti := ⟨s / 8, t / 8, by omega, by omega⟩
      obtain ⟨si, ti, hsi, hti⟩ := hst
      have HS := Lib.hid (And.intro hA (And.intro hB (And.intro hE (And.intro hRa (And.intro hRb (And.intro hsi (And.intro hti (And.intro hs ht))))))))
      clear hA hB hE hRa hRb hRc hRd hRe hRf hsi hti hR hL hp' ST ih hxi hle hc hm hok h
      have hs2 : s ≤ 281474976710656 := by have := HS.out; omega
      have ht2 : t ≤ 281474976710656 := by have := HS.out; omega
      by_cases hlt : s < t
      · -- the three parts
        have c1 : cnt (step p ⟨ad, by_, bs, N⟩) i j = cnt p i si + (cntTo (fmOf bs N).at (ti - ad / 8) - cntTo (fmOf bs N).at (si - ad / 8)) + cnt p ti j := by
          rw [cnt_split _ (show i ≤ si by have := HS.out; omega) (show si ≤ j by have := HS.out; omega), cnt_split _ (show si ≤ ti by have := HS.out; omega) (show ti ≤ j by have := HS.out; omega)]
          rw [cnt_in (x := ⟨ad, by_, bs, N⟩) (i := si) (j := ti) (by simp only; have := HS.out; omega) (by simp only; have := HS.out; omega) (by have := HS.out; omega),
            cnt_skip (x := ⟨ad, by_, bs, N⟩) (i := i) (j := si) (fun z h1 h2 => by simp only; have := HS.out; omega), cnt_skip (x := ⟨ad, by_, bs, N⟩) (i := ti) (j := j) (fun z h1 h2 => by simp only; have := HS.out; omega)]
          simp only
          omega
        rw [c1]
        obtain ⟨u, hu⟩ : ∃ u, u = ti - ad / 8 := ⟨_, rfl⟩
        obtain ⟨v, hv⟩ : ∃ v, v = si - ad / 8 := ⟨_, rfl⟩
        rw [← hu, ← hv]
        obtain ⟨P1, hP1⟩ : ∃ q, q = cnt p i si := ⟨_, rfl⟩
        obtain ⟨P2, hP2⟩ : ∃ q, q = cnt p ti j := ⟨_, rfl⟩
        obtain ⟨Q1, hQ1⟩ : ∃ q, q = cntTo (fmOf bs N).at u := ⟨_, rfl⟩
        obtain ⟨Q2, hQ2⟩ : ∃ q, q = cntTo (fmOf bs N).at v := ⟨_, rfl⟩
        have b1 : P1 ≤ 35184372088832 := by have := cnt_le p i si; have := HS.out; omega
        have b2 : P2 ≤ 35184372088832 := by have := cnt_le p ti j; have := HS.out; omega
        have b3 : Q1 ≤ 35184372088832 := by have := cntTo_le (fmOf bs N).at u; have := HS.out; omega
        have b4 : Q2 ≤ Q1 := by rw [hQ1, hQ2]; exact cntTo_mono _ (by have := HS.out; omega)
        have d1 : ((t : Nat) : Int) - ((ad : Nat) : Int) = ((8 * u : Nat) : Int) := by have := HS.out; omega
        have d2 : ((s : Nat) : Int) - ((ad : Nat) : Int) = ((8 * v : Nat) : Int) := by have := HS.out; omega
        have hu2 : u ≤ 35184372088832 := by have := HS.out; omega
        have hv2 : v ≤ 35184372088832 := by have := HS.out; omega
        have AH := Lib.hid (fun (W : World) (hW : Fr (fun _ => False) w W) (k : Nat) (hk : k ≤ 35184372088832) => ahead_any W ⟨ad, by_, bs, N⟩ a' c' k HOK.out (HM.out.fr hW (fun _ _ x => x)) hk)
        have A1 : Hid (∀ (W : World), Fr (fun _ => False) w W → Hid (Calls Try.prog 29 #[.agg #[.int .u64 (ad : Nat), .int .u64 (by_ : Nat), .int .i64 (bs.length : Nat), .slice a' bs.length c', .int .u64 (N : Nat)], .int .u64 (u : Nat)] W (Ahead W Q1))) := Lib.hid (fun W hW => Lib.hid (by rw [hQ1]; exact AH.out W hW u hu2))
        have A2 : Hid (∀ (W : World), Fr (fun _ => False) w W → Hid (Calls Try.prog 29 #[.agg #[.int .u64 (ad : Nat), .int .u64 (by_ : Nat), .int .i64 (bs.length : Nat), .slice a' bs.length c', .int .u64 (N : Nat)], .int .u64 (v : Nat)] W (Ahead W Q2))) := Lib.hid (fun W hW => Lib.hid (by rw [hQ2]; exact AH.out W hW v hv2))
        have R1 : Hid (∀ (W : World), Fr (fun _ => False) w W → Hid (Calls Try.prog 28 #[.pointer (some ⟨r, 0, none⟩), .int .u64 (A : Nat), .int .u64 (s : Nat), .int .i64 (n : Nat)] W (Counted W P1))) := Lib.hid (fun W hW => Lib.hid (by
          rw [hP1, HS.out.1, HS.out.2.2.2.2.2.1]; exact IH.out W hW i si hi (by have := HS.out; omega)))
        have R2 : Hid (∀ (W : World), Fr (fun _ => False) w W → Hid (Calls Try.prog 28 #[.pointer (some ⟨r, 0, none⟩), .int .u64 (t : Nat), .int .u64 (B : Nat), .int .i64 (n : Nat)] W (Counted W P2))) := Lib.hid (fun W hW => Lib.hid (by
          rw [hP2, HS.out.2.1, HS.out.2.2.2.2.2.2.1]; exact IH.out W hW ti j (by have := HS.out; omega) hj))
        obtain ⟨Q, hQ⟩ : ∃ Q, Q = Q1 - Q2 := ⟨_, rfl⟩
        have c2 : cntTo (fmOf bs N).at u - cntTo (fmOf bs N).at v = Q := by rw [hQ, hQ1, hQ2]
        rw [c2, ← hP1, ← hP2]
        have b5 : Q ≤ 35184372088832 := by omega
        obtain ⟨U, hU⟩ : ∃ U, U = 8 * u := ⟨_, rfl⟩
        obtain ⟨V, hV⟩ : ∃ V, V = 8 * v := ⟨_, rfl⟩
        rw [← hU] at d1
        rw [← hV] at d2
        have d3 : ((U : Nat) : Int) / 8 = ((u : Nat) : Int) := by omega
        have d4 : ((V : Nat) : Int) / 8 = ((v : Nat) : Int) := by omega
        have u1 : IntKind.u64.wrap (((Q1 : Nat) : Int) - ((Q2 : Nat) : Int)) = ((Q : Nat) : Int) := (IntWalk.u64_in _ ⟨by omega, by omega⟩).trans (by omega)
        have u2 : IntKind.u64.wrap (((t : Nat) : Int) - ((ad : Nat) : Int)) = ((U : Nat) : Int) := (IntWalk.u64_in _ ⟨by omega, by omega⟩).trans d1
        have u3 : IntKind.u64.wrap (((s : Nat) : Int) - ((ad : Nat) : Int)) = ((V : Nat) : Int) := (IntWalk.u64_in _ ⟨by omega, by omega⟩).trans d2
        have u4 : IntKind.u64.wrap ((U : Nat) : Int) = ((U : Nat) : Int) := IntWalk.u64_in _ ⟨by omega, by omega⟩
        have u5 : IntKind.u64.wrap ((V : Nat) : Int) = ((V : Nat) : Int) := IntWalk.u64_in _ ⟨by omega, by omega⟩
        have u6 : IntKind.u64.wrap ((u : Nat) : Int) = ((u : Nat) : Int) := IntWalk.u64_in _ ⟨by omega, by omega⟩
        have u7 : IntKind.u64.wrap ((v : Nat) : Int) = ((v : Nat) : Int) := IntWalk.u64_in _ ⟨by omega, by omega⟩
        have UU := Lib.hid (And.intro u1 (And.intro u2 (And.intro u3 (And.intro u4 (And.intro u5 (And.intro u6 u7))))))
        clear u1 u2 u3 u4 u5 u6 u7 hQ
        clear c1 c2 hP1 hP2 hQ1 hQ2 AH IH hu hv hU hV
        rcases hs with ⟨hs1, rfl⟩ | ⟨hs1, rfl⟩ <;> rcases ht with ⟨ht1, rfl⟩ | ⟨ht1, rfl⟩
        all_goals
          go_enter Try.func28, Try.ntmps28
          go_wp2_with fail
          obtain ⟨W, hW⟩ : ∃ W, W = w.alloc (.cells #[.int .u64 (ad : Nat), .int .u64 (by_ : Nat), .int .i64 (bs.length : Nat), .slice a' bs.length c', .int .u64 (N : Nat)] 73) := ⟨_, rfl⟩
          rw [← hW]
          obtain ⟨X, hX⟩ : ∃ X, X = w.heap.size := ⟨_, rfl⟩
          rw [← hX]
          have hXb : W.heap[X]? = some (.cells #[.int .u64 (ad : Nat), .int .u64 (by_ : Nat), .int .i64 (bs.length : Nat), .slice a' bs.length c', .int .u64 (N : Nat)] 73 (0, 0)) := by rw [hW, hX, heap_alloc, if_pos rfl]
          have KP := Lib.hid (fun (W' : World) (hf : Fr (fun _ => False) W W') => (⟨cell_blk (hf.at hXb (fun x => x)) 0, cell_blk (hf.at hXb (fun x => x)) 1, cell_blk (hf.at hXb (fun x => x)) 2, cell_blk (hf.at hXb (fun x => x)) 3, cell_blk (hf.at hXb (fun x => x)) 4⟩ : W'.cell? ⟨X, 0, none⟩ = some (.int .u64 (ad : Nat)) ∧ W'.cell? ⟨X, 1, none⟩ = some (.int .u64 (by_ : Nat)) ∧ W'.cell? ⟨X, 2, none⟩ = some (.int .i64 (bs.length : Nat)) ∧ W'.cell? ⟨X, 3, none⟩ = some (.slice a' bs.length c') ∧ W'.cell? ⟨X, 4, none⟩ = some (.int .u64 (N : Nat))))
          have FW := Lib.hid (show Fr (fun _ => False) w W by rw [hW]; exact (Fr.refl _ _).alloc _)
          obtain ⟨x0, x1, x2, x3, x4⟩ := KP.out W (Fr.refl _ _)
          clear hW hX hXb hp c0 c1 c2 c3 c4
          go_quiet (fail)
          go_wp2_with fail
          obtain ⟨u1, u2, u3, u4, u5, u6, u7⟩ := UU.out
          go_region_held3 (fun w' => w'.cell? ⟨X, 0, none⟩ = some (.int .u64 (ad : Nat)) ∧ w'.cell? ⟨X, 1, none⟩ = some (.int .u64 (by_ : Nat)) ∧ w'.cell? ⟨X, 2, none⟩ = some (.int .i64 (bs.length : Nat)) ∧ w'.cell? ⟨X, 3, none⟩ = some (.slice a' bs.length c') ∧ w'.cell? ⟨X, 4, none⟩ = some (.int .u64 (N : Nat))) (first | go_keep | exact KP.out _ HY.out) ((first
            | (go_at_call 29; (with_reducible refine (A1.out _ (FW.out.trans (HY.out.trans (Fr.refl _ w5) (fun _ _ x => x)) (fun _ _ x => x))).out.mono ?_); rintro e w6 ⟨rfl, hf6⟩; replace HY := Lib.hid (HY.out.trans hf6.out (fun _ _ x => x)))
            | (go_at_call 29; (with_reducible refine (A2.out _ (FW.out.trans (HY.out.trans (Fr.refl _ w4) (fun _ _ x => x)) (fun _ _ x => x))).out.mono ?_); rintro e w6 ⟨rfl, hf6⟩; replace HY := Lib.hid (HY.out.trans hf6.out (fun _ _ x => x)))
            | (go_at_call 29; (with_reducible refine (A1.out _ (FW.out.trans (Fr.of_drewN _ W _) (fun _ _ x => x))).out.mono ?_); rintro e w4 ⟨rfl, hf4⟩; have HY := Lib.hid ((Fr.of_drewN (fun _ => False) W _).trans hf4.out (fun _ _ x => x)))
            | (go_at_call 29; (with_reducible refine (A2.out _ (FW.out.trans (Fr.of_drewN _ W _) (fun _ _ x => x))).out.mono ?_); rintro e w5 ⟨rfl, hf5⟩; have HY := Lib.hid ((Fr.of_drewN (fun _ => False) W _).trans hf5.out (fun _ _ x => x)))))
          all_goals
            clear u1 u2 u3 u4 u5 u6 u7
            have HZ := Lib.hid (FW.out.trans HY.out (fun _ _ x => x))
            go_wp2_with (first
              | (go_at_call 28; (with_reducible refine (R2.out _ (HZ.out.trans hf8.out (fun _ _ x => x))).out.mono ?_); rintro e w9 ⟨rfl, hf9⟩)
              | (go_at_call 28; (with_reducible refine (R1.out _ HZ.out).out.mono ?_); rintro e w8 ⟨rfl, hf8⟩))
            go_ret
            exact ⟨by go_num, Lib.hid ((HZ.out.trans hf8.out (fun _ _ x => x)).trans hf9.out (fun _ _ x => x))⟩
      · have e0 : cnt (step p ⟨ad, by_, bs, N⟩) i j = cnt p i j := cnt_skip (fun z h1 h2 => by simp only; have := HS.out; omega)
        rw [e0]
        have R1 : Hid (∀ (W : World), Fr (fun _ => False) w W → Hid (Calls Try.prog 28 #[.pointer (some ⟨r, 0, none⟩), .int .u64 (A : Nat), .int .u64 (B : Nat), .int .i64 (n : Nat)] W (Counted W (cnt p i j)))) := Lib.hid (fun W hW => Lib.hid (by
          rw [HS.out.1, HS.out.2.1]; exact IH.out W hW i j hi hj))
        clear e0 IH
        rcases hs with ⟨hs1, rfl⟩ | ⟨hs1, rfl⟩ <;> rcases ht with ⟨ht1, rfl⟩ | ⟨ht1, rfl⟩
        all_goals first | (exfalso; omega) | skip
        all_goals
          go_enter Try.func28, Try.ntmps28
          go_wp2_with fail
          go_quiet (fail)
          go_wp2_with (go_at_call 28; refine (R1.out _ (((Fr.refl _ w).alloc _).drewN _)).out.mono ?_; rintro e w2 ⟨rfl, hf2⟩)
          go_ret
          exact ⟨rfl, Lib.hid ((((Fr.refl _ w).alloc _).drewN _).trans hf2.out (fun _ _ x => x))⟩
end Go.Proofs.Ytcnnibhipjkgiaa.Rf
