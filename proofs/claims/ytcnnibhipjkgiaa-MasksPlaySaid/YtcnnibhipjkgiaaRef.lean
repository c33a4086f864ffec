/-
  The reference (mallowref15) in memory; Right, ahead, word.
-/
import Derived.Test.YtcnnibhipjkgiaaTruths
namespace Go.Proofs.Ytcnnibhipjkgiaa.Rf
open Go.RowKit Go.Deep

/-- what was written: a block, and so many things of a type -/
structure Wt where
  addr : Nat
  bytes : Nat
  bs : List Bool
  n : Nat

/-- what a writing says of a word; elsewhere as before -/
def step (p : Nat → Bool) (x : Wt) : Nat → Bool := over (x.addr / 8) ((x.addr + x.bytes) / 8) (fmOf x.bs x.n).at p
/-- what all of them say, the last first -/
def rsem (L : List Wt) : Nat → Bool := L.foldl step (fun _ => false)
theorem rsem_snoc (L : List Wt) (x : Wt) : rsem (L ++ [x]) = step (rsem L) x := by unfold rsem; rw [List.foldl_append]; rfl
theorem rsem_take {L : List Wt} {i : Nat} {x : Wt} (h : L[i]? = some x) : rsem (L.take (i + 1)) = step (rsem (L.take i)) x := by
  rw [List.take_add_one, h]
  exact rsem_snoc _ _

def Ok (x : Wt) : Prop := Right x.addr x.bytes ∧ 0 < x.bs.length ∧ x.bs.length ≤ 65536 ∧ x.n * x.bs.length ≤ x.bytes / 8

abbrev WV := Wt × Value
def wcc (x : WV) : List Value := [.int .u64 (x.1.addr : Nat), .int .u64 (x.1.bytes : Nat), .int .i64 (x.1.bs.length : Nat), x.2, .int .u64 (x.1.n : Nat)]
theorem wcc_len (x : WV) : (wcc x).length = 5 := rfl

/-- the reference in block r has the writings L, in the blocks F -/
structure Is (w : World) (r : Nat) (L : List WV) (F : Nat → Prop) : Prop where
  row : ∃ a c, w.heap[r]? = some (.cells #[.slice a L.length c] 45 (0, 0)) ∧ w.ownsRow 0 73 5 (.slice a L.length c) L.length (L.flatMap wcc) ∧
    (∀ g, (Value.slice a L.length c).ownBlock = some g → F g) ∧
    ∀ x ∈ L, ∃ a' c', x.2 = .slice a' x.1.bs.length c' ∧ RdF (fun b => F b ∧ (Value.slice a L.length c).ownBlock ≠ some b) w 1 (.slice a' x.1.bs.length c') x.1.bs.length (x.1.bs.map .bool)
  ok : ∀ x ∈ L, Ok x.1
  own : ¬ F r
  lt : ∀ b, F b → b < w.heap.size

theorem Is.fr {S F : Nat → Prop} {w w' : World} {r : Nat} {L : List WV} (h : Is w r L F) (hf : Fr S w w') (hS : ∀ b, F b → ¬ S b) (hr : ¬ S r) : Is w' r L F := by
  obtain ⟨a, c, h1, h2, h3, h4⟩ := h.row
  refine ⟨⟨a, c, hf.at h1 hr, ?_, h3, fun x hx => ?_⟩, h.ok, h.own, fun b hb => Nat.lt_of_lt_of_le (h.lt b hb) hf.size⟩
  · refine ⟨h2.1, ?_⟩
    rcases h2.2 with h5 | ⟨g, cap, cur, hv, hg, hh, r⟩
    · exact .inl h5
    · exact .inr ⟨g, cap, cur, hv, hg, hf.at hh (hS g (h3 g (by rw [hv]; rfl))), r⟩
  · obtain ⟨a', c', h5, h6⟩ := h4 x hx
    exact ⟨a', c', h5, h6.fr hf (fun b hb => hS b hb.1)⟩
theorem Is.quiet {F : Nat → Prop} {w w' : World} {r : Nat} {L : List WV} (h : Is w r L F) (hf : Fr (fun _ => False) w w') : Is w' r L F := h.fr hf (fun _ _ x => x) (fun x => x)

theorem Is.head {F : Nat → Prop} {w : World} {r : Nat} {L : List WV} (h : Is w r L F) : ∃ a c, w.cell? ⟨r, 0, none⟩ = some (.slice a L.length c) ∧ L.length ≤ c ∧ c ≤ 9223372036854775807 ∧ ∀ i x, L[i]? = some x → ∃ b o, a = some ⟨b, o, none⟩ ∧
    w.cell? ⟨b, o + i * 5, none⟩ = some (.int .u64 (x.1.addr : Nat)) ∧ w.cell? ⟨b, o + i * 5 + 1, none⟩ = some (.int .u64 (x.1.bytes : Nat)) ∧ w.cell? ⟨b, o + i * 5 + 2, none⟩ = some (.int .i64 (x.1.bs.length : Nat)) ∧ w.cell? ⟨b, o + i * 5 + 3, none⟩ = some x.2 ∧ w.cell? ⟨b, o + i * 5 + 4, none⟩ = some (.int .u64 (x.1.n : Nat)) ∧
    Ok x.1 ∧ ∃ a' c', x.2 = .slice a' x.1.bs.length c' ∧ RdF F w 1 (.slice a' x.1.bs.length c') x.1.bs.length (x.1.bs.map .bool) := by
  obtain ⟨a, c, h1, h2, h3, h4⟩ := h.row
  refine ⟨a, c, cell_blk h1 0, ownsRow_cap h2, ?_, fun i x hi => ?_⟩
  · rcases h2.2 with ⟨h5, _⟩ | ⟨g, cap, cur, hv, _, _, _, h6, _⟩
    · simp only [Value.slice.injEq] at h5; omega
    · simp only [Value.slice.injEq] at hv; simp only [maxLen] at h6; omega
  · obtain ⟨b, o, rfl, hc⟩ := rd_rows wcc_len (by decide) (ownsRow_rd h2) hi
    obtain ⟨a', c', h5, h6⟩ := h4 x (List.mem_of_getElem? hi)
    exact ⟨b, o, rfl, hc 0 _ rfl, hc 1 _ rfl, hc 2 _ rfl, hc 3 _ rfl, hc 4 _ rfl, h.ok x (List.mem_of_getElem? hi), a', c', h5, h6.mono (fun b hb => hb.1)⟩

set_option maxHeartbeats 1000000 in
theorem right_any (w : World) (a n : Nat) (ha : a ≤ 18446744073709551615) (hn : n ≤ 18446744073709551615) :
    Calls Try.prog 26 #[.int .u64 a, .int .u64 n] w fun e w' => e = .returned (.bool (decide (Right a n))) ∧ w = w' := by
  by_cases h1 : a % 8 = 0
  · by_cases h2 : n % 8 = 0
    · by_cases h3 : 0 < n
      · by_cases h4 : n ≤ 1099511627776
        · by_cases h5 : a ≤ 281474976710656
          · by_cases h6 : n ≤ 281474976710656 - a
            · have e : decide (Right a n) = true := by unfold Right; simp [h1, h2, h4, h5, h6]; omega
              rw [e]
              have k1 : ((a : Nat) : Int) % 8 = 0 := by omega
              have k2 : ((n : Nat) : Int) % 8 = 0 := by omega
              have k4 : decide (((n : Nat) : Int) ≤ 281474976710656 - ((a : Nat) : Int)) = true := by rw [decide_eq_true_iff]; omega
              go_enter Try.func26, Try.ntmps26
              go_wp2
              go_ret
              exact ⟨rfl, rfl⟩
            · have e : decide (Right a n) = false := by unfold Right; simp [h1, h2, h4, h5, h6]
              rw [e]
              have k1 : ((a : Nat) : Int) % 8 = 0 := by omega
              have k2 : ((n : Nat) : Int) % 8 = 0 := by omega
              have k4 : decide (((n : Nat) : Int) ≤ 281474976710656 - ((a : Nat) : Int)) = false := by rw [decide_eq_false_iff_not]; omega
              go_enter Try.func26, Try.ntmps26
              go_wp2
              go_ret
              exact ⟨rfl, rfl⟩
          · have e : decide (Right a n) = false := by unfold Right; simp [h5]
            rw [e]
            have k1 : ((a : Nat) : Int) % 8 = 0 := by omega
            have k2 : ((n : Nat) : Int) % 8 = 0 := by omega
            go_enter Try.func26, Try.ntmps26
            go_wp2
            go_ret
            exact ⟨rfl, rfl⟩
        · have e : decide (Right a n) = false := by unfold Right; simp [h4]
          rw [e]
          have k1 : ((a : Nat) : Int) % 8 = 0 := by omega
          have k2 : ((n : Nat) : Int) % 8 = 0 := by omega
          go_enter Try.func26, Try.ntmps26
          go_wp2
          go_ret
          exact ⟨rfl, rfl⟩
      · have e : decide (Right a n) = false := by rw [decide_eq_false_iff_not]; unfold Right; omega
        rw [e]
        have k1 : ((a : Nat) : Int) % 8 = 0 := by omega
        have k0 : n = 0 := by omega
        subst k0
        have k2 : ((0 : Nat) : Int) % 8 = 0 := by rfl
        go_enter Try.func26, Try.ntmps26
        go_wp2
        go_ret
        exact ⟨rfl, rfl⟩
    · have e : decide (Right a n) = false := by unfold Right; simp [h2]
      rw [e]
      have k1 : ((a : Nat) : Int) % 8 = 0 := by omega
      have k2 : ¬ ((n : Nat) : Int) % 8 = 0 := by omega
      go_enter Try.func26, Try.ntmps26
      go_wp2
      go_ret
      exact ⟨rfl, rfl⟩
  · have e : decide (Right a n) = false := by unfold Right; simp [h1]
    rw [e]
    have k1 : ¬ ((a : Nat) : Int) % 8 = 0 := by omega
    go_enter Try.func26, Try.ntmps26
    go_wp2
    go_ret
    exact ⟨rfl, rfl⟩

/-- how many of the first k are, of those ahead of r -/
theorem cntTo_min (p : Nat → Bool) (k r : Nat) : cntTo (fun i => p i && decide (i < r)) k = cntTo p (if k ≤ r then k else r) := by
  induction k with
  | zero => simp [cntTo]
  | succ k ih =>
    simp only [cntTo]
    rw [ih]
    by_cases h : k + 1 ≤ r
    · rw [if_pos h, if_pos (by omega)]
      have : decide (k < r) = true := by simp; omega
      simp [cntTo, this]
    · rw [if_neg h]
      have : decide (k < r) = false := by simp; omega
      simp only [this, Bool.and_false]
      by_cases h2 : k ≤ r
      · have : k = r := by omega
        subst this; simp
      · rw [if_neg h2]; simp

theorem ahead_plain {bs : List Bool} (hl : 0 < bs.length) (N n k : Nat) (hk : k = if N * bs.length < n then N * bs.length else n) : k / bs.length * cntTo (bit bs) bs.length + cntTo (bit bs) (k % bs.length) = cntTo (fmOf bs N).at n := by
  rw [fm_below hl]
  unfold below
  have h1 := Nat.div_add_mod n bs.length
  have h2 := Nat.mod_lt n hl
  by_cases h : N * bs.length < n
  · rw [if_pos h] at hk
    subst hk
    rw [Nat.mul_div_cancel _ hl, Nat.mul_mod_left, if_pos ((Nat.le_div_iff_mul_le hl).2 (by omega))]
    simp [cntTo]
  · rw [if_neg h] at hk
    subst hk
    by_cases h3 : N ≤ k / bs.length
    · have h4 := (Nat.le_div_iff_mul_le hl).1 h3
      have e : k = N * bs.length := by omega
      rw [if_pos h3, e, Nat.mul_div_cancel _ hl, Nat.mul_mod_left]
      simp [cntTo]
    · rw [if_neg h3]

/-- how many of the first k are, of those ahead of r -/
def rest (bs : List Bool) (r k : Nat) : Nat := cntTo (fun i => bit bs i && decide (i < r)) k
theorem rest_all {bs : List Bool} {r : Nat} (h : r < bs.length) : rest bs r bs.length = cntTo (bit bs) r := by
  unfold rest
  rw [cntTo_min, if_neg (by omega)]

def Ahead (w : World) (z : Nat) (e : Ending) (w' : World) : Prop := e = .returned (.int .u64 (z : Nat)) ∧ Hid (Fr (fun _ => False) w w')

set_option maxRecDepth 20000 in
set_option maxHeartbeats 2000000 in
theorem ahead_any (w : World) (x : Wt) (a : Option Addr) (c : Nat) (n : Nat) (hok : Ok x) (hrd : Rd w 1 (.slice a x.bs.length c) x.bs.length (x.bs.map .bool)) (hn : n ≤ 35184372088832) :
    Calls Try.prog 29 #[.agg #[.int .u64 (x.addr : Nat), .int .u64 (x.bytes : Nat), .int .i64 (x.bs.length : Nat), .slice a x.bs.length c, .int .u64 (x.n : Nat)], .int .u64 n] w (Ahead w (cntTo (fmOf x.bs x.n).at n)) := by
  obtain ⟨ad, by_, bs, N⟩ := x
  obtain ⟨hR, hl, hl2, hnl⟩ := hok
  simp only at hR hl hl2 hnl hrd ⊢
  have hR2 := (right_words hR).2.2.2
  obtain ⟨E, hE⟩ : ∃ E, E = N * bs.length := ⟨_, rfl⟩
  have e1 : ((N : Nat) : Int) * ((bs.length : Nat) : Int) = ((E : Nat) : Int) := by rw [hE]; push_cast; rfl
  have hE2 : E ≤ 137438953472 := by omega
  obtain ⟨k, hk⟩ : ∃ k, k = if N * bs.length < n then N * bs.length else n := ⟨_, rfl⟩
  have HK := Lib.hid (ahead_plain hl N n k hk)
  rw [← hE] at hk
  have hk2 : k ≤ 137438953472 ∨ k ≤ n := by rw [hk]; split <;> omega
  have hk3 : k ≤ 35184372088832 := by omega
  obtain ⟨r, hr⟩ : ∃ r, r = k % bs.length := ⟨_, rfl⟩
  obtain ⟨Q, hQ⟩ : ∃ Q, Q = k / bs.length := ⟨_, rfl⟩
  have e2 : ((k : Nat) : Int) % ((bs.length : Nat) : Int) = ((r : Nat) : Int) := by rw [hr]; push_cast; rfl
  have e3 : ((k : Nat) : Int) / ((bs.length : Nat) : Int) = ((Q : Nat) : Int) := by rw [hQ]; push_cast; rfl
  have hQ2 : Q ≤ 35184372088832 := by rw [hQ]; exact Nat.le_trans (Nat.div_le_self _ _) hk3
  have hr1 : r < bs.length := by rw [hr]; exact Nat.mod_lt _ hl
  have hcl := cntTo_le (bit bs) bs.length
  obtain ⟨C, hC⟩ : ∃ C, C = cntTo (bit bs) bs.length := ⟨_, rfl⟩
  obtain ⟨M, hM⟩ : ∃ M, M = Q * C := ⟨_, rfl⟩
  have e4 : ((Q : Nat) : Int) * ((C : Nat) : Int) = ((M : Nat) : Int) := by rw [hM]; push_cast; rfl
  have hM2 : M ≤ 35184372088832 := by
    have h1 : Q * C ≤ k := by
      rw [hQ]
      exact Nat.le_trans (Nat.mul_le_mul_left _ (by omega : C ≤ bs.length)) (Nat.div_mul_le_self _ _)
    omega
  rw [← hr, ← hQ, ← hC, ← hM] at HK
  have hrd' : Rd (w.alloc (.cells #[.int .u64 (ad : Nat), .int .u64 (by_ : Nat), .int .i64 (bs.length : Nat), .slice a bs.length c, .int .u64 (N : Nat)] 73)) 1 (.slice a bs.length c) bs.length (bs.map .bool) := hrd.fr ((Fr.refl (fun _ => False) w).alloc _) (fun _ _ x => x)
  have HR := Lib.hid hrd'
  have HC := Lib.hid hC
  clear hrd' hrd hr hQ hM hC hE hnl hk2 hcl hR
  by_cases hlt : E < n
  all_goals
    first | rw [if_pos hlt] at hk | rw [if_neg hlt] at hk
    subst hk
    go_enter Try.func29, Try.ntmps29
    go_wp2_with fail
    go_loopg [6, 7, 8] bs.length (fun kk x y i wx => wx = w.alloc (.cells #[.int .u64 (ad : Nat), .int .u64 (by_ : Nat), .int .i64 (bs.length : Nat), .slice a bs.length c, .int .u64 (N : Nat)] 73) ∧ ∃ j : Nat, i = .int .u64 j ∧ x = .int .u64 (cntTo (bit bs) j : Nat) ∧ y = .int .u64 (rest bs r j : Nat) ∧ Hid (j ≤ bs.length ∧ bs.length - j ≤ kk))
    case atStart => exact ⟨rfl, 0, rfl, rfl, rfl, Lib.hid ⟨Nat.zero_le _, Nat.le_refl _⟩⟩
    case round =>
      obtain ⟨rfl, j, rfl, rfl, rfl, HJ⟩ := hrel
      have hj1 := HJ.out.1
      by_cases hjl : j < bs.length
      · obtain ⟨mb, mo, rfl, hcm⟩ := rd_at HR.out (bools_get hjl)
        have hc1 := cntTo_le (bit bs) j
        have hc2 := cntTo_le (fun i => bit bs i && decide (i < r)) j
        have hc3 : rest bs r j ≤ j := hc2
        have S1 : Hid (cntTo (bit bs) (j + 1) = cntTo (bit bs) j + if bit bs j then 1 else 0) := Lib.hid rfl
        have S2 : Hid (rest bs r (j + 1) = rest bs r j + if (bit bs j && decide (j < r)) then 1 else 0) := Lib.hid rfl
        clear hc2
        cases hb : bit bs j with
        | true =>
          rw [hb] at hcm S1 S2
          clear hb
          by_cases hjr : j < r
          · rw [decide_eq_true hjr] at S2
            go_wp2_with fail
            go_roundg (bs.length - (j + 1))
            case measure => have := HJ.out.2; omega
            case rel => exact ⟨rfl, j + 1, by go_num, by rw [S1.out]; go_num, by rw [S2.out]; go_num, Lib.hid ⟨hjl, Nat.le_refl _⟩⟩
          · rw [decide_eq_false hjr] at S2
            go_wp2_with fail
            go_roundg (bs.length - (j + 1))
            case measure => have := HJ.out.2; omega
            case rel => exact ⟨rfl, j + 1, by go_num, by rw [S1.out]; go_num, by rw [S2.out]; go_num, Lib.hid ⟨hjl, Nat.le_refl _⟩⟩
        | false =>
          rw [hb] at hcm S1 S2
          clear hb
          go_wp2_with fail
          go_roundg (bs.length - (j + 1))
          case measure => have := HJ.out.2; omega
          case rel => exact ⟨rfl, j + 1, by go_num, by rw [S1.out]; go_num, by rw [S2.out]; go_num, Lib.hid ⟨hjl, Nat.le_refl _⟩⟩
      · have hje : j = bs.length := by omega
        have hc4 := cntTo_le (bit bs) r
        have RA := Lib.hid (rest_all hr1)
        rw [hje, RA.out, ← HC.out]
        go_wp2_with fail
        go_ret
        exact ⟨by rw [← HK.out]; go_num, Lib.hid ((Fr.refl _ w).alloc _)⟩
end Go.Proofs.Ytcnnibhipjkgiaa.Rf
