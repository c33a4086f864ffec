/-
  How many pointers a form has between two words.
-/
import Derived.Test.YtcnnibhipjkgiaaHold
namespace Go.Proofs.Ytcnnibhipjkgiaa
open Go.RowKit Go.Deep

theorem cnt_out {bs : List Bool} {i j : Nat} (h : bs.length ≤ i) : cnt (bit bs) i j = 0 := cnt_false (fun x hx _ => bit_out (by omega))

set_option maxHeartbeats 1000000 in
theorem place_count {w : World} {bs : List Bool} {a : Option Addr} {c : Nat} (h : Rd w 1 (.slice a bs.length c) bs.length (bs.map .bool)) (hb : bs.length ≤ 65536) (i j : Nat) (hij : i ≤ j) (hj : j ≤ 35184372088832) :
    Calls Try.prog 49 #[.slice a bs.length c, .int .u64 i, .int .u64 j] w fun e w' => e = .returned (.int .u64 (cnt (bit bs) i j : Nat)) ∧ w = w' := by
  have H := Lib.hid h
  clear h
  go_enter Try.func49, Try.ntmps49
  go_wp2_with fail
  go_loopg [7, 8] (bs.length - i) (fun k n x wr => w = wr ∧ ∃ (q : Nat), x = .int .u64 q ∧ n = .int .u64 (cnt (bit bs) i q : Nat) ∧ Hid (i ≤ q ∧ q ≤ j ∧ (bs.length - q) = k))
  case atStart => exact ⟨rfl, i, rfl, by rw [cnt_self]; rfl, Lib.hid ⟨Nat.le_refl _, hij, rfl⟩⟩
  case round =>
    obtain ⟨rfl, q, rfl, rfl, HQ⟩ := hrel
    have hle := cnt_le (bit bs) i q
    have q1 := HQ.out.1
    have q2 := HQ.out.2.1
    by_cases h1 : q < j ∧ q < bs.length
    · obtain ⟨h1, h2⟩ := h1
      obtain ⟨b, o, rfl, hc⟩ := rd_at H.out (bools_get h2)
      have S := Lib.hid (cnt_step (bit bs) q1)
      cases hbit : bit bs q with
      | true =>
        rw [hbit] at hc
        have HB := Lib.hid hbit
        clear hbit
        go_wp2
        all_goals (
          go_roundg (bs.length - (q + 1))
          case measure => have := HQ.out.2.2; omega
          case rel => exact ⟨rfl, q + 1, by go_num, by rw [S.out, HB.out]; go_num, Lib.hid ⟨by omega, by omega, rfl⟩⟩)
      | false =>
        rw [hbit] at hc
        have HB := Lib.hid hbit
        clear hbit
        go_wp2
        all_goals (
          go_roundg (bs.length - (q + 1))
          case measure => have := HQ.out.2.2; omega
          case rel => exact ⟨rfl, q + 1, by go_num, by rw [S.out, HB.out]; go_num, Lib.hid ⟨by omega, by omega, rfl⟩⟩)
    · have e : cnt (bit bs) i q = cnt (bit bs) i j := by
        by_cases h2 : q < j
        · rw [cnt_split (bit bs) q1 q2, cnt_out (show bs.length ≤ q by omega)]; rfl
        · have : q = j := by omega
          rw [this]
      have E := Lib.hid e
      clear e
      by_cases h2 : q < j
      · have h3 : ¬ q < bs.length := by omega
        clear h1
        go_wp2
        all_goals (
          go_ret
          exact ⟨by rw [← E.out]; rfl, rfl⟩)
      · have h3 : q = j := by omega
        subst h3
        clear h1
        go_wp2
        all_goals (
          go_ret
          exact ⟨rfl, rfl⟩)

theorem u64_nat {m : Nat} (h : m ≤ 18446744073709551615) : IntKind.u64.wrap ((m : Nat) : Int) = (m : Nat) := IntWalk.u64_in _ ⟨by omega, by omega⟩

/-- so many things of a type, by value -/
def tagg (a : Option Addr) (l c : Nat) (a' : Option Addr) (c' n : Nat) : Value := .agg #[.slice a l c, .slice a' (l + 1) c', .int .u64 (n : Nat)]

set_option maxHeartbeats 1000000 in
theorem below_any {w : World} {bs : List Bool} {a a' : Option Addr} {c c' n : Nat} (h : Rd w 1 (.slice a bs.length c) bs.length (bs.map .bool)) (h' : Rd w 1 (.slice a' (bs.length + 1) c') (bs.length + 1) (aheads bs)) (hl : 0 < bs.length) (hb : bs.length ≤ 65536) (hn : n * bs.length ≤ 137438953472) (i : Nat) (hi : i ≤ 35184372088832) :
    Calls Try.prog 52 #[tagg a bs.length c a' c' n, .int .u64 i] w fun e w' => e = .returned (.int .u64 (below bs n i : Nat)) ∧ Fr (fun _ => False) w w' := by
  obtain ⟨b', o', rfl, hel⟩ := rd_at h' (aheads_get (Nat.le_refl bs.length))
  obtain ⟨b2, o2, he2, hcr⟩ := rd_at h' (aheads_get (Nat.le_of_lt (Nat.mod_lt i hl)))
  simp only [Option.some.injEq, Addr.mk.injEq] at he2
  obtain ⟨rfl, rfl, _⟩ := he2
  have hbw : b' < w.heap.size := World.block_lt_of_cell? _ _ hel
  have hb2 := Lib.hid hbw
  have fx : Fr (fun _ => False) w (w.alloc (.cells #[.slice a bs.length c, .slice (some ⟨b', o', none⟩) (bs.length + 1) c', .int .u64 (n : Nat)] 69)) := (Fr.refl _ w).alloc _
  have e1 := cell_through fx hel (fun x => x)
  have e2 := cell_through fx hcr (fun x => x)
  have FX := Lib.hid fx
  clear fx h h' hel hcr hbw
  unfold tagg
  have hec := cntTo_le (bit bs) bs.length
  generalize heach : cntTo (bit bs) bs.length = each at *
  go_enter Try.func52, Try.ntmps52
  go_wp2_with fail
  have q0 : ((bs.length : Nat) : Int) ≠ 0 := by omega
  have d1 : IntKind.u64.wrap (((i : Nat) : Int) / ((bs.length : Nat) : Int)) = ((i / bs.length : Nat) : Int) := by
    rw [← Int.natCast_ediv]
    have hz := Nat.div_le_self i bs.length
    generalize i / bs.length = z at hz ⊢
    exact IntWalk.u64_in _ ⟨by omega, by omega⟩
  by_cases hbig : n ≤ i / bs.length
  · have hd : decide (((n : Nat) : Int) ≤ IntKind.u64.wrap (((i : Nat) : Int) / ((bs.length : Nat) : Int))) = true := by rw [d1]; simpa using (by exact_mod_cast hbig : ((n : Nat) : Int) ≤ ((i / bs.length : Nat) : Int))
    have hbl : below bs n i = n * each := by unfold below; rw [if_pos hbig, heach]
    have hne : n * each ≤ 18446744073709551615 := Nat.le_trans (Nat.mul_le_mul_left n hec) (by omega)
    clear d1 hec
    go_quiet (fail)
    go_wp2_with fail
    go_ret
    exact ⟨by rw [hbl]; rfl, FX.out.drewN _⟩
  · have hd : decide (((n : Nat) : Int) ≤ IntKind.u64.wrap (((i : Nat) : Int) / ((bs.length : Nat) : Int))) = false := by rw [d1]; simpa using (by exact_mod_cast (by omega : i / bs.length < n) : ((i / bs.length : Nat) : Int) < ((n : Nat) : Int))
    have hbl : below bs n i = i / bs.length * each + cntTo (bit bs) (i % bs.length) := by unfold below; rw [if_neg hbig, heach]
    have hz1 : i / bs.length ≤ 18446744073709551615 := Nat.le_trans (Nat.div_le_self i bs.length) (by omega)
    have hz4 : i / bs.length * each ≤ n * bs.length := Nat.mul_le_mul (by omega) hec
    have hz2 : i / bs.length * each ≤ 18446744073709551615 := Nat.le_trans hz4 (by omega)
    have hz3 : i / bs.length * each + cntTo (bit bs) (i % bs.length) ≤ 18446744073709551615 := Nat.le_trans (Nat.add_le_add hz4 (Nat.le_trans (cntTo_le _ _) (Nat.le_of_lt (Nat.mod_lt i hl)))) (by omega)
    clear hz4 hec
    have d2 : IntKind.u64.wrap (((i : Nat) : Int) % ((bs.length : Nat) : Int)) = ((i % bs.length : Nat) : Int) := by
      rw [← Int.natCast_emod]
      have hz := Nat.mod_lt i hl
      generalize i % bs.length = z at hz ⊢
      exact IntWalk.u64_in _ ⟨by omega, by omega⟩
    have hm := Nat.mod_lt i hl
    clear d1
    go_quiet (fail)
    go_wp2_with fail
    go_quiet (fail)
    go_wp2_with fail
    go_ret
    exact ⟨by
      rw [hbl]
      show Ending.returned (Value.int .u64 (IntKind.u64.wrap (IntKind.u64.wrap (IntKind.u64.wrap (((i : Nat) : Int) / ((bs.length : Nat) : Int)) * ((each : Nat) : Int)) + ((cntTo (bit bs) (i % bs.length) : Nat) : Int)))) = _
      rw [← Int.natCast_ediv, u64_nat hz1, ← Int.natCast_mul, u64_nat hz2, ← Int.natCast_add, u64_nat hz3], (FX.out.drewN _).drewN _⟩
set_option maxHeartbeats 1000000 in
theorem things_at {w : World} {bs : List Bool} {a a' : Option Addr} {c c' n : Nat} (h : Rd w 1 (.slice a bs.length c) bs.length (bs.map .bool)) (hl : 0 < bs.length) (hb : bs.length ≤ 65536) (hn : n * bs.length ≤ 137438953472) (i : Nat) (hi : i ≤ 35184372088832) :
    Calls Try.prog 50 #[tagg a bs.length c a' c' n, .int .u64 i] w fun e w' => e = .returned (.bool (Fm.at (.things bs n) i)) ∧ Fr (fun _ => False) w w' := by
  obtain ⟨b2, o2, rfl, hcr⟩ := rd_at h (bools_get (Nat.mod_lt i hl))
  have fx : Fr (fun _ => False) w (w.alloc (.cells #[.slice (some ⟨b2, o2, none⟩) bs.length c, .slice a' (bs.length + 1) c', .int .u64 (n : Nat)] 69)) := (Fr.refl _ w).alloc _
  have e2 := cell_through fx hcr (fun x => x)
  have FX := Lib.hid fx
  clear fx h hcr
  unfold tagg
  go_enter Try.func50, Try.ntmps50
  go_wp2_with fail
  have q0 : ((bs.length : Nat) : Int) ≠ 0 := by omega
  have d1 : IntKind.u64.wrap (((i : Nat) : Int) / ((bs.length : Nat) : Int)) = ((i / bs.length : Nat) : Int) := by
    rw [← Int.natCast_ediv]
    have hz := Nat.div_le_self i bs.length
    generalize i / bs.length = z at hz ⊢
    exact IntWalk.u64_in _ ⟨by omega, by omega⟩
  by_cases hbig : i / bs.length < n
  · have hd : decide (IntKind.u64.wrap (((i : Nat) : Int) / ((bs.length : Nat) : Int)) < ((n : Nat) : Int)) = true := by rw [d1]; simpa using (by exact_mod_cast hbig : ((i / bs.length : Nat) : Int) < ((n : Nat) : Int))
    have hbl : Fm.at (.things bs n) i = bit bs (i % bs.length) := by unfold Fm.at; simp [hbig]
    have d2 : IntKind.u64.wrap (((i : Nat) : Int) % ((bs.length : Nat) : Int)) = ((i % bs.length : Nat) : Int) := by
      rw [← Int.natCast_emod]
      have hz := Nat.mod_lt i hl
      generalize i % bs.length = z at hz ⊢
      exact IntWalk.u64_in _ ⟨by omega, by omega⟩
    have hm := Nat.mod_lt i hl
    have HB := Lib.hid hbl
    clear d1 hbl
    go_quiet (fail)
    go_wp2_with fail
    go_ret
    exact ⟨by rw [HB.out]; rfl, FX.out.drewN _⟩
  · have hd : decide (IntKind.u64.wrap (((i : Nat) : Int) / ((bs.length : Nat) : Int)) < ((n : Nat) : Int)) = false := by rw [d1]; simpa using (by exact_mod_cast (by omega : n ≤ i / bs.length) : ((n : Nat) : Int) ≤ ((i / bs.length : Nat) : Int))
    have hbl : Fm.at (.things bs n) i = false := by unfold Fm.at; simp [hbig]
    have HB := Lib.hid hbl
    clear d1 hbl
    go_quiet (fail)
    go_wp2_with fail
    go_ret
    exact ⟨by rw [HB.out]; rfl, FX.out.drewN _⟩

set_option maxHeartbeats 1000000 in
theorem things_count {w : World} {bs : List Bool} {a a' : Option Addr} {c c' n : Nat} (h : Rd w 1 (.slice a bs.length c) bs.length (bs.map .bool)) (h' : Rd w 1 (.slice a' (bs.length + 1) c') (bs.length + 1) (aheads bs)) (hl : 0 < bs.length) (hb : bs.length ≤ 65536) (hn : n * bs.length ≤ 137438953472) (i j : Nat) (hij : i ≤ j) (hj : j ≤ 35184372088832) :
    Calls Try.prog 51 #[tagg a bs.length c a' c' n, .int .u64 i, .int .u64 j] w fun e w' => e = .returned (.int .u64 (cnt (Fm.at (.things bs n)) i j : Nat)) ∧ Fr (fun _ => False) w w' := by
  have ei : i ≤ 35184372088832 := by omega
  have e0 := Lib.hid (below_eq hl n i)
  have e1 := Lib.hid (below_eq hl n j)
  have em := below_mono bs hl n hij
  have eb : below bs n j ≤ n * bs.length := by
    unfold below
    split
    · exact Nat.mul_le_mul_left n (cntTo_le _ _)
    · rename_i h1
      have h2 := Nat.mul_le_mul_left (j / bs.length) (cntTo_le (bit bs) bs.length)
      have h3 := cntTo_le (bit bs) (j % bs.length)
      have h4 := Nat.mod_lt j hl
      have h5 : (j / bs.length + 1) * bs.length ≤ n * bs.length := Nat.mul_le_mul_right _ (by omega)
      rw [Nat.add_mul, Nat.one_mul] at h5
      omega
  have c1 : Calls Try.prog 52 #[tagg a bs.length c a' c' n, .int .u64 j] (w.alloc (.cells #[.slice a bs.length c, .slice a' (bs.length + 1) c', .int .u64 (n : Nat)] 69)).drew fun e w' => e = .returned (.int .u64 (below bs n j : Nat)) ∧ Hid (Fr (fun _ => False) w w') ∧ Hid (w'.cell? ⟨w.heap.size, 0, none⟩ = some (.slice a bs.length c) ∧ w'.cell? ⟨w.heap.size, 1, none⟩ = some (.slice a' (bs.length + 1) c') ∧ w'.cell? ⟨w.heap.size, 2, none⟩ = some (.int .u64 (n : Nat))) := by
    have f0 : Fr (fun _ => False) w (w.alloc (.cells #[.slice a bs.length c, .slice a' (bs.length + 1) c', .int .u64 (n : Nat)] 69)).drew := ((Fr.refl _ w).alloc _).drew
    obtain ⟨k0, k1, k2⟩ := blk3 (w := (w.alloc (.cells #[.slice a bs.length c, .slice a' (bs.length + 1) c', .int .u64 (n : Nat)] 69)).drew) (b := w.heap.size) (by show (w.alloc _).heap[w.heap.size]? = _; rw [heap_alloc, if_pos rfl])
    refine (below_any (h.fr f0 (fun _ _ x => x)) (h'.fr f0 (fun _ _ x => x)) hl hb hn j hj).mono ?_
    rintro e w1 ⟨rfl, hf⟩
    exact ⟨rfl, Lib.hid (f0.trans hf (fun _ _ x => x)), Lib.hid ⟨cell_through hf k0 (fun x => x), cell_through hf k1 (fun x => x), cell_through hf k2 (fun x => x)⟩⟩
  have c2 : ∀ w1, Fr (fun _ => False) w w1 → (w1.cell? ⟨w.heap.size, 0, none⟩ = some (.slice a bs.length c) ∧ w1.cell? ⟨w.heap.size, 1, none⟩ = some (.slice a' (bs.length + 1) c') ∧ w1.cell? ⟨w.heap.size, 2, none⟩ = some (.int .u64 (n : Nat))) → Hid (Calls Try.prog 52 #[tagg a bs.length c a' c' n, .int .u64 i] w1 fun e w' => e = .returned (.int .u64 (below bs n i : Nat)) ∧ Hid (Fr (fun _ => False) w w') ∧ Hid (w'.cell? ⟨w.heap.size, 0, none⟩ = some (.slice a bs.length c) ∧ w'.cell? ⟨w.heap.size, 1, none⟩ = some (.slice a' (bs.length + 1) c') ∧ w'.cell? ⟨w.heap.size, 2, none⟩ = some (.int .u64 (n : Nat)))) := fun w1 f0 k => Lib.hid (by
    refine (below_any (h.fr f0 (fun _ _ x => x)) (h'.fr f0 (fun _ _ x => x)) hl hb hn i ei).mono ?_
    rintro e w2 ⟨rfl, hf⟩
    exact ⟨rfl, Lib.hid (f0.trans hf (fun _ _ x => x)), Lib.hid ⟨cell_through hf k.1 (fun x => x), cell_through hf k.2.1 (fun x => x), cell_through hf k.2.2 (fun x => x)⟩⟩)
  have c1 := Lib.hid c1
  have c2 := Lib.hid c2
  clear h h' hij
  unfold tagg at *
  go_enter Try.func51, Try.ntmps51
  go_wp2_with fail
  go_region_held3 (fun w' => w'.cell? ⟨w.heap.size, 0, none⟩ = some (.slice a bs.length c) ∧ w'.cell? ⟨w.heap.size, 1, none⟩ = some (.slice a' (bs.length + 1) c') ∧ w'.cell? ⟨w.heap.size, 2, none⟩ = some (.int .u64 (n : Nat))) (go_keep) ((first | (go_at_call 52; refine (c2.out _ hf1.out hk1.out).out.mono ?_; rintro e w2 ⟨rfl, hf2, hk2⟩; obtain ⟨d1, d2, d3⟩ := id hk2.out) | (go_at_call 52; refine c1.out.mono ?_; rintro e w1 ⟨rfl, hf1, hk1⟩; obtain ⟨b1, b2, b3⟩ := id hk1.out)))
  go_wp2_with fail
  go_ret
  exact ⟨by
    unfold cnt
    rw [e0.out, e1.out]
    show Ending.returned (Value.int .u64 (IntKind.u64.wrap (((below bs n j : Nat) : Int) - ((below bs n i : Nat) : Int)))) = _
    rw [← Int.ofNat_sub em, u64_nat (by omega)], hf2.out⟩
end Go.Proofs.Ytcnnibhipjkgiaa
