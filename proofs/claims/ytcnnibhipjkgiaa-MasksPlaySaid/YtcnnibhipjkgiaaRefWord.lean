/-
  The reference: word, Read.
-/
import Derived.Test.YtcnnibhipjkgiaaRef
namespace Go.Proofs.Ytcnnibhipjkgiaa.Rf
open Go.RowKit Go.Deep

/-- does a writing reach a word? -/
theorem step_out {p : Nat → Bool} {x : Wt} {z : Nat} (h : ¬ (x.addr / 8 ≤ z ∧ z < (x.addr + x.bytes) / 8)) : step p x z = p z := by unfold step over; rw [if_neg h]
theorem step_in {p : Nat → Bool} {x : Wt} {z : Nat} (h : x.addr / 8 ≤ z ∧ z < (x.addr + x.bytes) / 8) : step p x z = (fmOf x.bs x.n).at (z - x.addr / 8) := by unfold step over; rw [if_pos h]

def Word (w : World) (b : Bool) (e : Ending) (w' : World) : Prop := e = .returned (.bool b) ∧ Hid (Fr (fun _ => False) w w')

set_option maxRecDepth 20000 in
set_option maxHeartbeats 2000000 in
theorem word_any {F : Nat → Prop} {r : Nat} {L : List WV} (w : World) (h : Is w r L F) (z : Nat) (hz : z ≤ 35184372088832) :
    Calls Try.prog 27 #[.pointer (some ⟨r, 0, none⟩), .int .u64 ((8 * z : Nat) : Nat)] w (Word w (rsem (L.map (·.1)) z)) := by
  obtain ⟨a, c, hp, hle, hc, hL⟩ := h.head
  have H := Lib.hid h
  have HL := Lib.hid hL
  obtain ⟨A, hA⟩ : ∃ A, A = 8 * z := ⟨_, rfl⟩
  rw [← hA]
  have HA := Lib.hid hA
  have hA2 : A ≤ 281474976710656 := by omega
  have hlen : L.length ≤ 9223372036854775807 := by omega
  clear h hL hA hle hc
  go_enter Try.func27, Try.ntmps27
  go_wp2_with fail
  go_loopg [5] L.length (fun kk i wr => ∃ q : Nat, i = .int .i64 ((q : Nat) - 1 : Int) ∧ Hid (q ≤ L.length ∧ Fr (fun _ => False) w wr ∧ rsem (L.map (·.1)) z = rsem ((L.map (·.1)).take q) z ∧ q ≤ kk))
  case atStart => exact ⟨L.length, rfl, Lib.hid ⟨Nat.le_refl _, Fr.refl _ _, by rw [List.take_of_length_le (by simp)], Nat.le_refl _⟩⟩
  case round =>
    obtain ⟨q, rfl, HQ⟩ := hrel
    have hq1 := HQ.out.1
    cases q with
    | zero =>
      have g0 : ¬ (0 : Int) ≤ ((0 : Nat) : Int) - 1 := by omega
      go_wp2_with fail
      go_ret
      exact ⟨by rw [HQ.out.2.2.1]; rfl, Lib.hid HQ.out.2.1⟩
    | succ i =>
      have g1 : (((i + 1 : Nat) : Int) - 1) = ((i : Nat) : Int) := by omega
      rw [g1]
      obtain ⟨x, hxi⟩ : ∃ x, L[i]? = some x := ⟨_, List.getElem?_eq_getElem (by omega)⟩
      obtain ⟨b, o, rfl, c0, c1, c2, c3, c4, hok, a', c', hx2, hm⟩ := HL.out i x hxi
      have hil : i < L.length := by omega
      have FR := Lib.hid HQ.out.2.1
      have e0 := cell_through FR.out c0 (fun x => x)
      have e1 := cell_through FR.out c1 (fun x => x)
      have e2 := cell_through FR.out c2 (fun x => x)
      have e3 := cell_through FR.out c3 (fun x => x)
      have e4 := cell_through FR.out c4 (fun x => x)
      have ep := cell_through FR.out hp (fun x => x)
      have HM := Lib.hid (hm.1.fr (S := fun _ => False) FR.out (fun _ _ x => x))
      have HST : Hid (rsem (L.map (·.1)) z = step (rsem ((L.map (·.1)).take i)) x.1 z) := Lib.hid (by rw [HQ.out.2.2.1, rsem_take (by rw [List.getElem?_map, hxi]; rfl)])
      obtain ⟨⟨ad, by_, bs, N⟩, xv⟩ := x
      simp only at c0 c1 c2 c3 c4 hok hx2 hm e0 e1 e2 e3 e4 HM HST
      subst hx2
      obtain ⟨hR, hl, hl2, hnl⟩ := hok
      simp only at hR hl hl2 hnl
      clear c0 c1 c2 c3 c4 hm hxi g1
      by_cases hin : ad / 8 ≤ z ∧ z < (ad + by_) / 8
      · have hS := HST.out
        rw [step_in hin] at hS
        simp only at hS
        obtain ⟨s, hs⟩ : ∃ s, s = z - ad / 8 := ⟨_, rfl⟩
        rw [← hs, fmOf_at bs hl] at hS
        have HS := Lib.hid hS
        obtain ⟨hRa, hRb, hRc, hRd, hRe, hRf⟩ := id hR
        have hAv := HA.out
        have k1 : ¬ A < ad := by omega
        obtain ⟨d, hd⟩ : ∃ d, d = A - ad := ⟨_, rfl⟩
        have k2 : ((A : Nat) : Int) - ((ad : Nat) : Int) = ((d : Nat) : Int) := by omega
        have k3 : ¬ by_ ≤ d := by omega
        have k4 : ((d : Nat) : Int) / 8 = ((s : Nat) : Int) := by omega
        obtain ⟨E, hE⟩ : ∃ E, E = N * bs.length := ⟨_, rfl⟩
        have k5 : ((N : Nat) : Int) * ((bs.length : Nat) : Int) = ((E : Nat) : Int) := by rw [hE]; push_cast; rfl
        have hE2 : E ≤ 137438953472 := by omega
        have hs2 : s ≤ 35184372088832 := by omega
        obtain ⟨m, hm⟩ : ∃ m, m = s % bs.length := ⟨_, rfl⟩
        have k6 : ((s : Nat) : Int) % ((bs.length : Nat) : Int) = ((m : Nat) : Int) := by rw [hm]; push_cast; rfl
        have hml : m < bs.length := by rw [hm]; exact Nat.mod_lt _ hl
        obtain ⟨mb, mo, rfl, hcm⟩ := rd_at HM.out (bools_get hml)
        have k7 : (s / bs.length < N) ↔ s < E := by rw [hE]; exact Nat.div_lt_iff_lt_mul hl
        clear hd hE hs hAv hRa hRb hRc hRd hRe hRf hR hS
        by_cases hsE : s < E
        · have HV := HS.out
          rw [decide_eq_true (k7.2 hsE), Bool.true_and, ← hm] at HV
          have HV := Lib.hid HV
          have u1 : IntKind.u64.wrap (((N : Nat) : Int) * ((bs.length : Nat) : Int)) = ((E : Nat) : Int) := (IntWalk.u64_in _ ⟨by omega, by omega⟩).trans k5
          have u3 : IntKind.u64.wrap ((E : Nat) : Int) = ((E : Nat) : Int) := IntWalk.u64_in _ ⟨by omega, by omega⟩
          have u2 : IntKind.u64.wrap ((bs.length : Nat) : Int) = ((bs.length : Nat) : Int) := IntWalk.u64_in _ ⟨by omega, by omega⟩
          have j0 : (0 : Int) ≤ ((m : Nat) : Int) := by omega
          have j1 : ((m : Nat) : Int) < ((bs.length : Nat) : Int) := by omega
          have b1 : decide (((s : Nat) : Int) < ((E : Nat) : Int)) = true := by simpa using hsE
          clear hm k7 hin
          go_wp2_with fail
          obtain ⟨W, hW⟩ : ∃ W, W = wr.alloc (.cells #[.int .u64 (ad : Nat), .int .u64 (by_ : Nat), .int .i64 (bs.length : Nat), .slice (some ⟨mb, mo, none⟩) bs.length c', .int .u64 (N : Nat)] 73) := ⟨_, rfl⟩
          rw [← hW]
          obtain ⟨X, hX⟩ : ∃ X, X = wr.heap.size := ⟨_, rfl⟩
          rw [← hX]
          have hXb : W.heap[X]? = some (.cells #[.int .u64 (ad : Nat), .int .u64 (by_ : Nat), .int .i64 (bs.length : Nat), .slice (some ⟨mb, mo, none⟩) bs.length c', .int .u64 (N : Nat)] 73 (0, 0)) := by rw [hW, hX, heap_alloc, if_pos rfl]
          have x2 := cell_blk hXb 2
          have x3 := cell_blk hXb 3
          have x4 := cell_blk hXb 4
          have FW : Fr (fun _ => False) wr W := by rw [hW]; exact (Fr.refl _ _).alloc _
          have xm := cell_through FW hcm (fun x => x)
          have HFW := Lib.hid FW
          clear hW hX hXb FW hcm hp e0 e1 e2 e3 e4 ep
          go_quiet (fail)
          go_wp2_with fail
          go_ret
          exact ⟨by rw [HV.out]; rfl, Lib.hid (FR.out.trans (HFW.out.drewN _) (fun _ _ x => x))⟩
        · have HV := HS.out
          rw [decide_eq_false (fun h => hsE (k7.1 h)), Bool.false_and] at HV
          have HV := Lib.hid HV
          have u1 : IntKind.u64.wrap (((N : Nat) : Int) * ((bs.length : Nat) : Int)) = ((E : Nat) : Int) := (IntWalk.u64_in _ ⟨by omega, by omega⟩).trans k5
          have u3 : IntKind.u64.wrap ((E : Nat) : Int) = ((E : Nat) : Int) := IntWalk.u64_in _ ⟨by omega, by omega⟩
          have u2 : IntKind.u64.wrap ((bs.length : Nat) : Int) = ((bs.length : Nat) : Int) := IntWalk.u64_in _ ⟨by omega, by omega⟩
          have j0 : (0 : Int) ≤ ((m : Nat) : Int) := by omega
          have j1 : ((m : Nat) : Int) < ((bs.length : Nat) : Int) := by omega
          have b1 : decide (((s : Nat) : Int) < ((E : Nat) : Int)) = false := by simpa using hsE
          clear hm k7 hin
          go_wp2_with fail
          obtain ⟨W, hW⟩ : ∃ W, W = wr.alloc (.cells #[.int .u64 (ad : Nat), .int .u64 (by_ : Nat), .int .i64 (bs.length : Nat), .slice (some ⟨mb, mo, none⟩) bs.length c', .int .u64 (N : Nat)] 73) := ⟨_, rfl⟩
          rw [← hW]
          obtain ⟨X, hX⟩ : ∃ X, X = wr.heap.size := ⟨_, rfl⟩
          rw [← hX]
          have hXb : W.heap[X]? = some (.cells #[.int .u64 (ad : Nat), .int .u64 (by_ : Nat), .int .i64 (bs.length : Nat), .slice (some ⟨mb, mo, none⟩) bs.length c', .int .u64 (N : Nat)] 73 (0, 0)) := by rw [hW, hX, heap_alloc, if_pos rfl]
          have x2 := cell_blk hXb 2
          have x3 := cell_blk hXb 3
          have x4 := cell_blk hXb 4
          have FW : Fr (fun _ => False) wr W := by rw [hW]; exact (Fr.refl _ _).alloc _
          have xm := cell_through FW hcm (fun x => x)
          have HFW := Lib.hid FW
          clear hW hX hXb FW hcm hp e0 e1 e2 e3 e4 ep
          go_quiet (fail)
          go_wp2_with fail
          go_ret
          exact ⟨by rw [HV.out]; rfl, Lib.hid (FR.out.trans (HFW.out.drewN _) (fun _ _ x => x))⟩
      · have hS := HST.out
        rw [step_out hin] at hS
        have HS := Lib.hid hS
        obtain ⟨hRa, hRb, hRc, hRd, hRe, hRf⟩ := id hR
        have hAv := HA.out
        by_cases k1 : A < ad
        · clear hAv hRa hRb hRc hRd hRe hRf hR hS hin
          go_wp2_with fail
          go_roundg i
          case measure => have := HQ.out.2.2.2; omega
          case rel => exact ⟨i, rfl, Lib.hid ⟨by omega, FR.out.trans ((Fr.refl (fun _ => False) _).alloc _) (fun _ _ x => x), HS.out, Nat.le_refl _⟩⟩
        · obtain ⟨d, hd⟩ : ∃ d, d = A - ad := ⟨_, rfl⟩
          have k2 : ((A : Nat) : Int) - ((ad : Nat) : Int) = ((d : Nat) : Int) := by omega
          have k3 : by_ ≤ d := by omega
          clear hd hAv hRa hRb hRc hRd hRe hRf hR hS hin
          go_wp2_with fail
          go_roundg i
          case measure => have := HQ.out.2.2.2; omega
          case rel => exact ⟨i, rfl, Lib.hid ⟨by omega, FR.out.trans ((Fr.refl (fun _ => False) _).alloc _) (fun _ _ x => x), HS.out, Nat.le_refl _⟩⟩
end Go.Proofs.Ytcnnibhipjkgiaa.Rf
