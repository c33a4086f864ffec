/-
  MasksBack: the walk.
-/
import Derived.Test.YtcnnibhipjkgiaaGreat
namespace Go.Proofs.Ytcnnibhipjkgiaa
open Go.RowKit Go.Deep

/-- append of what reads as a row to an own row, under a guard that holds -/
theorem wpList_append_rd_g {P : Program} {w w0 : World} {S : Nat → Prop} {ops : Array Oper} {rest : List Oper} {o : Oper} {a : Act} {Q : Exit → Act → World → Prop} (hw : Region.wanted o (yielded ops a.tmps) = true) (s x : Operand) (t : TypeId)
    (ho : o.op = .call { callee := .builtin .append, args := #[s, x], argTypes := #[t, t] })
    (e : TypeId) (i : TypeInfo) (z : Value) (size bytes : Nat) (ht : P.underlying t = some (.slice e)) (hi : P.info? e = some i) (hz : i.zero = some z)
    (hsize : i.size = size) (hby : i.bytes = bytes) (hzs : z.cells.size = size) (hsz : 0 < size)
    (v : Value) (n : Nat) (xs : List Value) (hs : a.eval s = v) (hown : w.ownsRow w0.heap.size e size v n xs) (hfr : Fr S w0 w)
    (u : Value) (m : Nat) (news : List Value) (hx : a.eval x = u) (hrd : Rd w size u m news) (h1 : ∀ u ∈ news, u.oneCell' = true)
    (h63 : n + m ≤ maxLen) (hbytes : (n + m) * bytes ≤ 140737488355328)
    (h : ∀ v' w', w'.ownsRow w0.heap.size e size v' (n + m) (xs ++ news) → Fr S w0 w' → Fr (fun b => some b = v.ownBlock) w w' → wpList P ops Q rest (a.put o.dst v') w') : wpList P ops Q (o :: rest) a w :=
  wpList_step fun K hK => by
    rw [if_pos hw]
    exact wp_append_rd s x t ho e i z size bytes ht hi hz hsize hby hzs hsz v n xs hs hown hfr u m news hx hrd h1 h63 hbytes (fun v' w' h2 h3 h4 => hK _ _ (h v' w' h2 h3 h4))

/-- what MasksBack wants of a word -/
def want (bs : List Bool) (n bw i : Nat) : Bool := if 10 ≤ i ∧ i < 10 + bw then decide (i - 10 < bs.length * n) && bit bs ((i - 10) % bs.length) else true

def ones1 (n i : Nat) : Bool := (fmOf [true] n).at i
theorem ones1_at {n i : Nat} (h : i < n) : (fmOf [true] n).at i = true := by
  rw [fmOf_at [true] (by decide)]
  simp [h, Nat.mod_one, bit]

/-- what the four writes of MasksBack leave -/
def back (bs : List Bool) (n bw aw : Nat) : Nat → Bool :=
  over (aw + 10) (aw + 10 + bw) (fmOf bs n).at (over (aw + 10) (aw + 10 + bw) (fmOf [true] bw).at (over (aw + 10 + bw) (aw + 10 + bw + 10) (fmOf [true] 10).at (over aw (aw + 10) (fmOf [true] 10).at (fun _ => false))))

theorem back_want {bs : List Bool} (hl : 0 < bs.length) {n bw aw i : Nat} (hi : i < bw + 20) : back bs n bw aw (aw + i) = want bs n bw i := by
  unfold back want over
  by_cases h1 : 10 ≤ i ∧ i < 10 + bw
  · rw [if_pos (by omega), if_pos h1, fmOf_at bs hl, show aw + i - (aw + 10) = i - 10 by omega]
    congr 1
    have h2 : (i - 10) / bs.length < n ↔ i - 10 < bs.length * n := by
      rw [Nat.div_lt_iff_lt_mul hl, Nat.mul_comm]
    by_cases h3 : i - 10 < bs.length * n
    · rw [decide_eq_true h3, decide_eq_true (h2.2 h3)]
    · rw [decide_eq_false h3, decide_eq_false (fun h => h3 (h2.1 h))]
  · rw [if_neg (by omega), if_neg (by omega), if_neg h1]
    by_cases h2 : i < 10
    · rw [if_neg (by omega), if_pos (by omega)]
      exact ones1_at (by omega)
    · rw [if_pos (by omega)]
      exact ones1_at (by omega)

theorem back_cnt {bs : List Bool} (hl : 0 < bs.length) (n bw aw : Nat) : cnt (back bs n bw aw) aw (aw + (bw + 20)) = cntTo (want bs n bw) (bw + 20) := by
  have h := cnt_shift (back bs n bw aw) aw 0 (bw + 20)
  have h2 : cnt (back bs n bw aw) aw (aw + (bw + 20)) = cnt (fun x => back bs n bw aw (aw + x)) 0 (bw + 20) := h.symm
  rw [h2]
  unfold cnt
  rw [cntTo_congr (q := want bs n bw) (fun i hi => back_want hl hi)]
  simp [cntTo]
/-- the Masks, and a type of one pointer beside them -/
structure One (w0 w : World) (m O T : Nat) (p : Nat → Bool) (k : Nat) : Prop where
  has : Has (fun _ => False) w0 w m p k
  o : w.heap[O]? = some (.cells #[.bool true] 4 (0, 0))
  t : w.heap[T]? = some (.cells #[.int .i64 1, .slice (some ⟨O, 0, none⟩) 1 1] 27 (0, 0))
  ne : O ≠ m ∧ T ≠ m

theorem One.quiet {w0 w w' : World} {m O T k : Nat} {p : Nat → Bool} (h : One w0 w m O T p k) (hf : Fr (fun _ => False) w w') : One w0 w' m O T p k :=
  ⟨h.has.quiet hf, hf.at h.o (fun x => x), hf.at h.t (fun x => x), h.ne⟩

/-- how a write has ended -/
def Wrote (w0 : World) (m O T : Nat) (p : Nat → Bool) (k : Nat) (e : Ending) (w' : World) : Prop :=
  e = .returned (.int .i64 0) ∧ Hid (One w0 w' m O T p k) ∧ w'.cell? ⟨T, 0, none⟩ = some (.int .i64 1) ∧ w'.cell? ⟨T, 1, none⟩ = some (.slice (some ⟨O, 0, none⟩) 1 1)

theorem one_write {w0 w : World} {m O T k : Nat} {p : Nat → Bool} (h : One w0 w m O T p k) (addr bytes : Nat) (hR : Right addr bytes) (hk : k ≤ 1000) (wd : Int) (bs : List Bool) (a : Option Addr) (c n i j : Nat) (hl : 0 < bs.length) (hl2 : bs.length ≤ 65536) (hw : wd = (bs.length : Nat))
    (hrd : Rd w 1 (.slice a bs.length c) bs.length (bs.map .bool)) (hn : n ≤ bytes / 8 / bs.length) (hi : addr / 8 = i) (hj : (addr + bytes) / 8 = j) :
    Calls Try.prog 8 #[.pointer (some ⟨m, 0, none⟩), .int .u64 addr, .int .u64 bytes, .agg #[.int .i64 wd, .slice a bs.length c], .int .u64 n] w (Wrote w0 m O T (over i j (fmOf bs n).at p) (k + 2)) := by
  subst hi hj hw
  have hR' := right_words hR
  have hn2 : bytes / 8 / bs.length ≤ bytes := Nat.le_trans (Nat.div_le_self _ _) (Nat.div_le_self _ _)
  refine (write_h h.has addr bytes (by omega) (by omega) (by omega) (bs.length : Nat) bs a c n (by omega) hrd 0 ?_).mono ?_
  · unfold wcode
    rw [if_neg (by rintro (h | h | h | h); exact h hR; omega; omega; exact h rfl), if_neg (by omega)]
  · rintro e w' ⟨rfl, hh, hf⟩
    rw [if_pos rfl] at hh
    have ho := hf.out.at h.o h.ne.1
    have ht := hf.out.at h.t h.ne.2
    exact ⟨rfl, Lib.hid ⟨hh.out, ho, ht, h.ne⟩, cell_blk ht 0, cell_blk ht 1⟩

theorem One.rd {w0 w : World} {m O T k : Nat} {p : Nat → Bool} (h : One w0 w m O T p k) : Rd w 1 (.slice (some ⟨O, 0, none⟩) [true].length 1) [true].length ([true].map .bool) := Rd.new (vs := [.bool true]) h.o 1 1 rfl

set_option maxRecDepth 100000 in
set_option maxHeartbeats 8000000 in
theorem back_in (w : World) (a : Option Addr) (c : Nat) (bs : List Bool) (hrd : Rd w 1 (.slice a bs.length c) bs.length (bs.map .bool)) (n sp aw : Nat)
    (h1 : 1 ≤ bs.length) (h2 : bs.length ≤ 100) (h3 : n ≤ 100) (h4 : sp ≤ 50) (h5 : aw ≤ 1073741824) :
    Calls Try.prog 3 #[.slice a bs.length c, .int .u64 n, .int .u64 sp, .int .u64 aw] w (Law w) := by
  have q0 : ¬ bs = [] := by intro h; subst h; simp at h1
  have hl : 0 < bs.length := by omega
  obtain ⟨i0, hi, hz0, hz1, hz2⟩ := info_parts Try.infoBool
  obtain ⟨WN, hWN⟩ : ∃ N, N = bs.length * n := ⟨_, rfl⟩
  have hWN2 : WN ≤ 10000 := by rw [hWN]; exact Nat.mul_le_mul h2 h3
  obtain ⟨bw, hbw⟩ : ∃ N, N = WN + sp + 1 := ⟨_, rfl⟩
  obtain ⟨BY, hBY⟩ : ∃ N, N = 8 * bw := ⟨_, rfl⟩
  obtain ⟨AD, hAD⟩ : ∃ N, N = 8 * (aw + 10) := ⟨_, rfl⟩
  obtain ⟨A0, hA0⟩ : ∃ N, N = 8 * aw := ⟨_, rfl⟩
  obtain ⟨AE, hAE⟩ : ∃ N, N = AD + BY := ⟨_, rfl⟩
  obtain ⟨BR, hBR⟩ : ∃ N, N = BY + 160 := ⟨_, rfl⟩
  obtain ⟨NL, hNL⟩ : ∃ N, N = bw + 20 := ⟨_, rfl⟩
  have e1 : ((bs.length : Nat) : Int) * ((n : Nat) : Int) = ((WN : Nat) : Int) := by rw [hWN]; push_cast; rfl
  have e2 : 8 * (((WN : Nat) : Int) + ((sp : Nat) : Int) + 1) = ((BY : Nat) : Int) := by omega
  have e3 : 8 * (((aw : Nat) : Int) + 10) = ((AD : Nat) : Int) := by omega
  have e4 : ((AD : Nat) : Int) - 80 = ((A0 : Nat) : Int) := by omega
  have e5 : ((AD : Nat) : Int) + ((BY : Nat) : Int) = ((AE : Nat) : Int) := by omega
  have e6 : ((BY : Nat) : Int) / 8 = ((bw : Nat) : Int) := by omega
  have e7 : ((BY : Nat) : Int) + 160 = ((BR : Nat) : Int) := by omega
  have e8 : ((bw : Nat) : Int) + 20 = ((NL : Nat) : Int) := by omega
  have b1 : BY ≤ 100000 := by omega
  have b2 : 80 ≤ AD ∧ AD ≤ 8589934672 := by omega
  have b3 : bw ≤ 10051 := by omega
  have HD := Lib.hid (And.intro hWN (And.intro hbw (And.intro hBY (And.intro hAD (And.intro hA0 (And.intro hAE (And.intro hBR hNL)))))))
  have hnew := Lib.hid (new_h w (Fr.refl _ w))
  have haw := Lib.hid (fun (W : World) => awake_any W)
  have H := Lib.hid hrd
  have R1 : Right A0 80 := by unfold Right; omega
  have R2 : Right AE 80 := by unfold Right; omega
  have R3 : Right AD BY := by unfold Right; omega
  have R4 : Right A0 BR := by unfold Right; omega
  have C1 := Lib.hid (fun (W : World) (m O T : Nat) (h : One w W m O T (fun _ => false) 0) => one_write h A0 80 R1 (by omega) 1 [true] (some ⟨O, 0, none⟩) 1 10 aw (aw + 10) (by decide) (by decide) rfl h.rd (by decide) (by omega) (by omega))
  have C2 := Lib.hid (fun (W : World) (m O T : Nat) (h : One w W m O T (over aw (aw + 10) (fmOf [true] 10).at (fun _ => false)) 2) => one_write h AE 80 R2 (by omega) 1 [true] (some ⟨O, 0, none⟩) 1 10 (aw + 10 + bw) (aw + 10 + bw + 10) (by decide) (by decide) rfl h.rd (by decide) (by omega) (by omega))
  have C3 := Lib.hid (fun (W : World) (m O T : Nat) (h : One w W m O T (over (aw + 10 + bw) (aw + 10 + bw + 10) (fmOf [true] 10).at (over aw (aw + 10) (fmOf [true] 10).at (fun _ => false))) 4) => one_write h AD BY R3 (by omega) 1 [true] (some ⟨O, 0, none⟩) 1 bw (aw + 10) (aw + 10 + bw) (by decide) (by decide) rfl h.rd (by simp; omega) (by omega) (by omega))
  have C4 := Lib.hid (fun (W : World) (m O T : Nat) (h : One w W m O T (over (aw + 10) (aw + 10 + bw) (fmOf [true] bw).at (over (aw + 10 + bw) (aw + 10 + bw + 10) (fmOf [true] 10).at (over aw (aw + 10) (fmOf [true] 10).at (fun _ => false)))) 6) (a2 : Option Addr) (c2 : Nat) (hr : Rd W 1 (.slice a2 bs.length c2) bs.length (bs.map .bool)) =>
    one_write h AD BY R3 (by omega) (bs.length : Nat) bs a2 c2 n (aw + 10) (aw + 10 + bw) hl (by omega) rfl hr (by rw [show BY / 8 = bw by omega]; exact (Nat.le_div_iff_mul_le hl).2 (by rw [Nat.mul_comm, ← hWN]; omega)) (by omega) (by omega))
  have RDc : Hid (∀ (W : World) (m O T : Nat), One w W m O T (back bs n bw aw) 8 → Hid (Calls Try.prog 9 #[.pointer (some ⟨m, 0, none⟩), .int .u64 A0, .int .u64 BR] W (Told W (back bs n bw aw) aw NL))) := Lib.hid (fun W m O T h => Lib.hid (by
    have := read_h h.has A0 BR (by omega) (by omega) (by omega) R4
    rw [show A0 / 8 = aw by omega, show BR / 8 = NL by omega] at this
    exact this))
  have PTc := Lib.hid (fun (W : World) (m O T : Nat) (h : One w W m O T (back bs n bw aw) 8) => ptrs_h h.has A0 BR (by omega) (by omega) (by omega) R4 (cntTo (want bs n bw) NL) (by
    rw [show A0 / 8 = aw by omega, show (A0 + BR) / 8 = aw + (bw + 20) by omega, back_cnt hl, ← hNL]))
  have b21 := b2.1
  have b22 := b2.2
  have W0 := Lib.hid (fun (W : World) (m : Nat) (h : Has (fun _ => False) w W m (fun _ => false) 0) => (⟨h.quiet (((Fr.refl _ W).alloc _).alloc _), by rw [heap_alloc_ne (by simp), heap_alloc, if_pos rfl], by rw [heap_alloc, if_pos (by simp)], by have := h.lt; omega⟩ : One w ((W.alloc (.cells #[.bool true] 4)).alloc (.cells #[.int .i64 1, .slice (some ⟨W.heap.size, 0, none⟩) 1 1] 27)) m W.heap.size (W.heap.size + 1) (fun _ => false) 0))
  clear hrd hWN hbw hBY hAD hA0 hAE hBR hNL b2 R1 R2 R3 R4
  go_enter Try.func3, Try.ntmps3
  go_wp2_with (first
    | (go_at_call 7; refine hnew.out.mono ?_; rintro e w1 ⟨m, rfl, hm1, hf1⟩)
    | (at_builtin; refine wpList_append_rd_g (w0 := w5) (S := fun _ => False) (by simp [go_sem, Region.wanted, yielded]) _ _ 22 rfl 4 i0 _ 1 1 Try.underlying22 hi hz0 hz1 hz2 rfl (by decide) _ 0 [] rfl (ownsRow_empty 1 (by rw [heap_alloc]; exact if_pos rfl) (Nat.le_refl _)) ((Fr.refl _ w5).alloc _) _ bs.length (bs.map .bool) rfl (H.out.fr (S := fun _ => False) (o5.out.has.fr.alloc _) (fun _ _ x => x)) (fun u hu => by obtain ⟨b, _, rfl⟩ := List.mem_map.1 hu; rfl) (by simp only [maxLen]; omega) (by omega) ?_)
    | (go_at_call 8; refine (C3.out w4 m _ _ o4.out).mono ?_; rintro e w5 ⟨rfl, o5, t50, t51⟩)
    | (go_at_call 8; refine (C2.out w3 m _ _ o3.out).mono ?_; rintro e w4 ⟨rfl, o4, t40, t41⟩)
    | (go_at_call 8; refine (C1.out _ m w1.heap.size (w1.heap.size + 1) (W0.out w1 m hm1.out)).mono ?_; rintro e w3 ⟨rfl, o3, t30, t31⟩))
  intro v2 w6 ho2 hf2 _
  replace ho2 : w6.ownsRow w5.heap.size 4 1 v2 bs.length (bs.map .bool) := by simpa using ho2
  obtain ⟨a2, c2, he2⟩ := ownsRow_form ho2
  subst he2
  have HW4 := Lib.hid (C4.out w6 m _ _ (o5.out.quiet hf2) a2 c2 (ownsRow_rd ho2))
  clear ho2 hf2
  go_wp2_with (first
    | (go_at_call 8; refine HW4.out.mono ?_; rintro e w7 ⟨rfl, o7, t70, t71⟩)
    | (go_at_call 9; refine (RDc.out w7 m _ _ o7.out).out.mono ?_; rintro e w8 ⟨b, rfl, hb, hr8, hf8⟩))
  have HF8 : Hid (Fr (fun _ => False) w w8) := Lib.hid (o7.out.has.fr.trans hf8.out (fun _ _ x => x))
  have HR8 : Hid (Rd w8 1 (.slice a bs.length c) bs.length (bs.map .bool)) := Lib.hid (H.out.fr (S := fun _ => False) HF8.out (fun _ _ x => x))
  have O8 := Lib.hid (o7.out.quiet hf8.out)
  go_loopg [16, 17] NL (fun kk x i wr => wr = w8 ∧ ∃ q : Nat, i = .int .u64 q ∧ x = .int .u64 (cntTo (want bs n bw) q : Nat) ∧ Hid (q ≤ NL ∧ NL - q ≤ kk))
  case atStart => exact ⟨rfl, 0, rfl, rfl, Lib.hid ⟨Nat.zero_le _, by omega⟩⟩
  case round =>
    obtain ⟨rfl, q, rfl, rfl, HQ⟩ := hrel
    have hq2 := HQ.out.1
    have hNL : NL ≤ 10071 := by have := HD.out; omega
    by_cases hlt : q < NL
    · have hcl := cntTo_le (want bs n bw) q
      have S : Hid (cntTo (want bs n bw) (q + 1) = cntTo (want bs n bw) q + if want bs n bw q then 1 else 0) := Lib.hid rfl
      have y0 := hr8.out.cell (i := q) hlt
      rw [back_want hl (by have := HD.out; omega)] at y0
      by_cases g1 : 10 ≤ q
      · by_cases g2 : q < 10 + bw
        · obtain ⟨j, hj⟩ : ∃ j, j = q - 10 := ⟨_, rfl⟩
          have z1 : ((q : Nat) : Int) - 10 = ((j : Nat) : Int) := by omega
          by_cases g3 : j < WN
          · obtain ⟨r, hr⟩ : ∃ r, r = j % bs.length := ⟨_, rfl⟩
            have hr1 : r < bs.length := by rw [hr]; exact Nat.mod_lt _ hl
            have z2 : ((j : Nat) : Int) % ((bs.length : Nat) : Int) = ((r : Nat) : Int) := by rw [hr]; exact (Int.natCast_emod _ _).symm
            have hwq : want bs n bw q = bit bs r := by
              unfold want
              rw [if_pos ⟨g1, g2⟩, ← hj, ← hr, ← HD.out.1, decide_eq_true g3, Bool.true_and]
            obtain ⟨mb, mo, rfl, hcm⟩ := rd_at HR8.out (bools_get hr1)
            clear hj hr
            cases hbit : bit bs r with
            | true =>
              rw [hwq, hbit] at y0
              rw [hbit] at hcm
              have HW := Lib.hid (hwq.trans hbit)
              clear hwq hbit
              go_wp2_with fail
              go_roundg (NL - (q + 1))
              case measure => have := HQ.out.2; omega
              case rel => exact ⟨rfl, q + 1, by go_num, by rw [S.out, HW.out]; go_num, Lib.hid ⟨hlt, Nat.le_refl _⟩⟩
            | false =>
              rw [hwq, hbit] at y0
              rw [hbit] at hcm
              have HW := Lib.hid (hwq.trans hbit)
              clear hwq hbit
              go_wp2_with fail
              go_roundg (NL - (q + 1))
              case measure => have := HQ.out.2; omega
              case rel => exact ⟨rfl, q + 1, by go_num, by rw [S.out, HW.out]; go_num, Lib.hid ⟨hlt, Nat.le_refl _⟩⟩
          · have hwq : want bs n bw q = false := by
              unfold want
              rw [if_pos ⟨g1, g2⟩, ← hj, ← HD.out.1, decide_eq_false g3, Bool.false_and]
            rw [hwq] at y0
            have HW := Lib.hid hwq
            clear hj hwq
            go_wp2_with fail
            go_roundg (NL - (q + 1))
            case measure => have := HQ.out.2; omega
            case rel => exact ⟨rfl, q + 1, by go_num, by rw [S.out, HW.out]; go_num, Lib.hid ⟨hlt, Nat.le_refl _⟩⟩
        · have hwq : want bs n bw q = true := by unfold want; rw [if_neg (by omega)]
          rw [hwq] at y0
          have HW := Lib.hid hwq
          clear hwq
          go_wp2_with fail
          go_roundg (NL - (q + 1))
          case measure => have := HQ.out.2; omega
          case rel => exact ⟨rfl, q + 1, by go_num, by rw [S.out, HW.out]; go_num, Lib.hid ⟨hlt, Nat.le_refl _⟩⟩
      · have hwq : want bs n bw q = true := by unfold want; rw [if_neg (by omega)]
        rw [hwq] at y0
        have HW := Lib.hid hwq
        clear hwq
        go_wp2_with fail
        go_roundg (NL - (q + 1))
        case measure => have := HQ.out.2; omega
        case rel => exact ⟨rfl, q + 1, by go_num, by rw [S.out, HW.out]; go_num, Lib.hid ⟨hlt, Nat.le_refl _⟩⟩
    · have hqe : q = NL := by omega
      rw [hqe]
      have PT := Lib.hid (PTc.out wr m _ _ O8.out)
      go_wp2_with (first
        | (go_at_call 10; refine PT.out.mono ?_; rintro e w9 ⟨rfl, hf9⟩)
        | (go_at_call 11; refine (haw.out _).mono ?_; rintro e w10 ⟨rfl, hf10⟩))
      go_ret
      exact ⟨rfl, (HF8.out.trans hf9.out (fun _ _ x => x)).trans hf10.out (fun _ _ x => x)⟩

set_option maxRecDepth 20000 in
set_option maxHeartbeats 4000000 in
theorem back_out (w : World) (a : Option Addr) (c : Nat) (bs : List Bool) (hm : bs.length ≤ 9223372036854775807) (n sp aw : Nat) (hn : n ≤ 18446744073709551615) (hsp : sp ≤ 18446744073709551615) (haw : aw ≤ 18446744073709551615)
    (hout : bs.length < 1 ∨ 100 < bs.length ∨ 100 < n ∨ 50 < sp ∨ 1073741824 < aw) :
    Calls Try.prog 3 #[.slice a bs.length c, .int .u64 n, .int .u64 sp, .int .u64 aw] w (Law w) := by
  by_cases h1 : bs.length < 1
  · clear hout
    go_enter Try.func3, Try.ntmps3
    go_wp2
    go_ret
    exact ⟨rfl, Fr.refl _ _⟩
  have q0 : ¬ bs = [] := by intro h; subst h; simp at h1
  by_cases h2 : 100 < bs.length
  · clear hout
    go_enter Try.func3, Try.ntmps3
    go_wp2
    go_ret
    exact ⟨rfl, Fr.refl _ _⟩
  by_cases h3 : 100 < n
  · clear hout
    go_enter Try.func3, Try.ntmps3
    go_wp2
    go_ret
    exact ⟨rfl, Fr.refl _ _⟩
  by_cases h4 : 50 < sp
  · clear hout
    go_enter Try.func3, Try.ntmps3
    go_wp2
    go_ret
    exact ⟨rfl, Fr.refl _ _⟩
  have h5 : 1073741824 < aw := by rcases hout with h | h | h | h | h <;> first | exact absurd h (by assumption) | exact h
  clear hout
  go_enter Try.func3, Try.ntmps3
  go_wp2
  go_ret
  exact ⟨rfl, Fr.refl _ _⟩

theorem back_said (w : World) (a : Option Addr) (c : Nat) (bs : List Bool) (hrd : Rd w 1 (.slice a bs.length c) bs.length (bs.map .bool)) (hm : bs.length ≤ 9223372036854775807) (z1 : Int) (w1 : (Lit.int .u64 z1).wf = true) (z2 : Int) (w2 : (Lit.int .u64 z2).wf = true) (z3 : Int) (w3 : (Lit.int .u64 z3).wf = true) :
    Calls Try.prog 3 #[.slice a bs.length c, .int .u64 z1, .int .u64 z2, .int .u64 z3] w (Law w) := by
  obtain ⟨n, rfl, hn⟩ := nat_of_u64 w1
  obtain ⟨sp, rfl, hs⟩ := nat_of_u64 w2
  obtain ⟨aw, rfl, ha⟩ := nat_of_u64 w3
  by_cases h : bs.length < 1 ∨ 100 < bs.length ∨ 100 < n ∨ 50 < sp ∨ 1073741824 < aw
  · exact back_out w a c bs hm n sp aw hn hs ha h
  · exact back_in w a c bs hrd n sp aw (by omega) (by omega) (by omega) (by omega) (by omega)
end Go.Proofs.Ytcnnibhipjkgiaa
