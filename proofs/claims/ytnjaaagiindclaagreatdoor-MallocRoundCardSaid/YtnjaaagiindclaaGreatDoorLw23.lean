/-
  MallocRound, walked. The table of TrailingZeros64 lies.
-/
import Derived.Test.YtnjaaagiindclaaGreatDoorPk12
import Derived.Deep.RegionWith
import Derived.Deep.QuietTactic
import Derived.Deep.RegionHeld3
import Derived.StillTailTactics
namespace Go.Proofs.YtnjaaagiindclaaGreatDoor
open Go.RowKit Go.Deep
attribute [local go_sem] Oper.semAt_some

/-- a class: what is to be known of it -/
structure Cls (m lo hi slots : Nat) : Prop where
  run : ∀ W, Laid W → ∃ sp, SX.SpecEnters Tryz.prog (SX.numB W lo hi) 13 sp ∧ (SX.pairT sp SX.ofS hi slots).den fun _ _ => False
  rlo : SX.TBl[m * 4]? = some (.int .i64 (lo : Int))
  rhi : SX.TBl[(m + 1) * 4]? = some (.int .i64 (hi : Int))
  rsl : SX.TBl[(m + 1) * 4 + 2]? = some (.int .i64 (slots : Int))
  lt : lo < hi
  le : hi ≤ 32768
  ge : 2 ≤ m
  lm : m < 67
def HeldR (p : Prop) : Prop := p
theorem holdR {p : Prop} (h : HeldR p) : p := h
namespace SX
noncomputable def T4 (hi u v i j : Nat) : Heap → Nat → Tree := fun h4 _ => okN (Nat.beq i j && (Nat.beq v (u + hi) && (Nat.blt v 18446744073709551616 && big0 h4))) .stop
noncomputable def T3 (of : Spec) (hi u v i : Nat) : Heap → Nat → Tree := fun h3 n3 => of [F0v, .l .u64 (v : Int)] h3 n3 fun b j h4 n4 => okN b (numN j fun j => T4 hi u v i j h4 n4)
noncomputable def T2 (of : Spec) (hi slots u v : Nat) : Heap → Nat → Tree := fun h2 n2 => if Nat.beq slots 1 then okN (big0 h2) .stop else of [F0v, .l .u64 (u : Int)] h2 n2 fun b i h3 n3 => okN b (numN i fun i => T3 of hi u v i h3 n3)
noncomputable def T1 (sp of : Spec) (hi slots u : Nat) : Heap → Nat → Tree := fun h1 n1 => sp (callN 2) h1 n1 fun b y h2 n2 => okN b (repN hi y fun v => T2 of hi slots u v h2 n2)
noncomputable def T0 (sp of : Spec) (hi slots : Nat) : Heap → Nat → Tree := fun h n => sp (callN 1) h n fun b x h1 n1 => okN b (repN hi x fun u => T1 sp of hi slots u h1 n1)
theorem T2_no {of : Spec} {hi slots u v : Nat} (h : slots ≠ 1) : T2 of hi slots u v = fun h2 n2 => of [F0v, .l .u64 (u : Int)] h2 n2 fun b i h3 n3 => okN b (numN i fun i => T3 of hi u v i h3 n3) := by
  funext h2 n2
  unfold T2
  rw [if_neg (by rw [Nat.beq_eq]; exact h)]
theorem T2_one {of : Spec} {hi slots u v : Nat} (h : slots = 1) (h2 : Heap) (n2 : Nat) (hd : (T2 of hi slots u v h2 n2).den fun _ _ => False) : big0 h2 = true := by
  unfold T2 at hd
  rw [if_pos (by rw [h]; rfl)] at hd
  exact (okN_den hd).1
theorem T4_den {hi u v i j : Nat} {h : Heap} {n : Nat} (hd : (T4 hi u v i j h n).den fun _ _ => False) : i = j ∧ v = u + hi ∧ v < 18446744073709551616 ∧ big0 h = true := by
  have h1 := (okN_den hd).1
  simp only [Bool.and_eq_true] at h1
  exact ⟨Nat.eq_of_beq_eq_true h1.1, Nat.eq_of_beq_eq_true h1.2.1, by simpa [Nat.blt_eq] using h1.2.2.1, h1.2.2.2⟩
theorem Sd.t4 {C : Ctx} {g N1 N2 hi u v i j : Nat} {w : World} (h : Sd C g N1 N2 (T4 hi u v i j) w) : i = j ∧ v = u + hi ∧ v < 18446744073709551616 := by
  obtain ⟨ρ, h, n, _, _, _, hd⟩ := h
  obtain ⟨h1, h2, h3, _⟩ := T4_den hd
  exact ⟨h1, h2, h3⟩
theorem ofS_ok {W : World} (hL : Laid W) (lo hi : Nat) : SpecEnters Tryz.prog (numB W lo hi) 14 ofS :=
  runP_ok fit (cons_ok (.inl (spTz_ok (fun _ _ h => h) hL)) (wt2_ok (numB_s _ _ _))) Tryz.func14 (by kernel_rfl)
theorem T0_is (sp of : Spec) (hi slots : Nat) : T0 sp of hi slots F0h F0n = pairT sp of hi slots := rfl
end SX
set_option maxRecDepth 100000 in
set_option maxHeartbeats 4000000 in
theorem law_in {m lo hi slots : Nat} (hc : Cls m lo hi slots) (a b : Nat) (ha : a < 18446744073709551616) (hb : b < 18446744073709551616) (w : World) (hL : Laid w)
    (hAw : ∀ U, Laid U → Calls Tryz.prog 11 #[] U fun e w' => e = .returned (.bool true) ∧ Fr (fun _ => False) U w') :
    Calls Tryz.prog 3 #[.int .i64 ((m : Int) + 1), .int .u64 (a : Int), .int .u64 (b : Int)] w fun e w' => e = .returned (.bool true) ∧ Fr (fun _ => False) w w' := by
  have hm1 := hc.ge
  have hm2 := hc.lm
  have g1 : decide ((m : Int) + 1 < 3) = false := by simp; omega
  have g2 : decide ((m : Int) + 1 ≥ 68) = false := by simp; omega
  have g2' : ¬ ((68 : Int) ≤ (m : Int) + 1) := by omega
  have HT := Lib.hid (SX.table_h w)
  have hlt := hc.lt
  have hle := hc.le
  obtain ⟨sp, hsp, hd⟩ := hc.run w hL
  obtain ⟨N1, hN1⟩ : ∃ N1, N1 = lo + 1 + a % (hi - lo) := ⟨_, rfl⟩
  obtain ⟨N2, hN2⟩ : ∃ N2, N2 = lo + 1 + b % (hi - lo) := ⟨_, rfl⟩
  have hm3 : a % (hi - lo) < hi - lo := Nat.mod_lt _ (by omega)
  have hm4 : b % (hi - lo) < hi - lo := Nat.mod_lt _ (by omega)
  have HFr := Lib.hid (fun (U : World) (R : List Grp) (hp : Hp w U (R ++ [SX.allG w])) => SX.fresh_h (lo := lo) (hi := hi) (N1 := N1) (N2 := N2) hp (by omega) (by omega) (by omega) (by omega) (T := SX.T0 sp SX.ofS hi slots) hd)
  have HD1 := Lib.hid (fun (C : SX.Ctx) (hC : C.B = SX.numB w lo hi) (gm : Nat) (U : World) (hS : SX.Sd C gm N1 N2 (SX.T0 sp SX.ofS hi slots) U) => SX.do_h (C := C) (hC ▸ hsp) 1 (fun _ h => h.a) (T := SX.T1 sp SX.ofS hi slots) hS)
  have hw1 : wrap64 ((m : Int) + 1 - 1) = (m : Int) := by unfold wrap64; omega
  go_enter Tryz.func3, Tryz.ntmps3
  go_wp2_with (first
    | (go_at_call 10; refine HT.out.mono ?_; rintro e w1 ⟨g, c, cc, rfl, hcc, hcell, hp1⟩; replace hcell := Lib.hid hcell; replace hp1 := Lib.hid hp1)
    | (go_at_call 12; refine (HFr.out _ [[(g, .cells cc 34 (0, 0))]] hp1.out).mono ?_; rintro e w2 ⟨gm, rfl, hS0⟩; replace hS0 := Lib.hid hS0))
  have hrow := hS0.out.has (G := [(g, .cells cc 34 (0, 0))]) (List.mem_singleton.2 rfl) (List.mem_singleton.2 rfl)
  have hlo : w2.cell? ⟨g, m * 4, none⟩ = some (.int .i64 (lo : Int)) := by rw [cell_blk hrow]; exact hcell.out _ _ hc.rlo
  have hhi : w2.cell? ⟨g, (m + 1) * 4, none⟩ = some (.int .i64 (hi : Int)) := by rw [cell_blk hrow]; exact hcell.out _ _ hc.rhi
  have hmx : Tryz.prog.follows .mixedOrders = true := by kernel_rfl
  have k1 : ((m : Int) + 1 - 1) = (m : Int) := by omega
  have k2 : ((m : Int) + 1).toNat = m + 1 := by omega
  have k3 : ((m : Int) + 1) < 68 := by omega
  have k4 : (m : Int) < 68 := by omega
  go_region
  have hS1 := Lib.hid (hS0.out.fr ((Fr.refl _ w2).drew))
  obtain ⟨w3, hw3⟩ : ∃ w3, w3 = w2.drew := ⟨_, rfl⟩
  rw [← hw3] at hS1 ⊢
  clear hw3 hlo hhi hrow hS0
  have hv : ∀ (y N : Nat), N = lo + 1 + y % (hi - lo) → IntKind.u64.wrap ((lo : Int) + 1 + (y : Int) % ((hi : Int) - ((lo : Int) + 1) + 1)) = (N : Int) := by
    intro y N hN
    have e : (hi : Int) - ((lo : Int) + 1) + 1 = ((hi - lo : Nat) : Int) := by omega
    have hy : y % (hi - lo) < hi - lo := Nat.mod_lt _ (by omega)
    rw [e, ← Int.natCast_emod, hN]
    exact SX.wrap_fits (k := .u64) ⟨by show (0 : Int) ≤ _; omega, by show _ ≤ (18446744073709551615 : Int); omega⟩
  have HDa : Hid (∀ U, SX.Sd ⟨w, [[(g, .cells cc 34 (0, 0))]], SX.numB w lo hi⟩ gm N1 N2 (SX.T0 sp SX.ofS hi slots) U → Calls Tryz.prog 13 #[.pointer (some ⟨gm, 0, none⟩), .agg #[.int .i64 1, .int .i64 0, .int .u64 (IntKind.u64.wrap ((lo : Int) + 1 + (a : Int) % ((hi : Int) - ((lo : Int) + 1) + 1))), .int .u64 0, .int .i64 0, .int .u64 0, .bool false, .int .i64 0, .slice none 0 0, .slice none 0 0]] U fun e w' =>
      ∃ u : Nat, e = .returned (.agg #[.int .u64 (u : Int), .int .u64 (hi : Int), .int .i64 0]) ∧ SX.Sd ⟨w, [[(g, .cells cc 34 (0, 0))]], SX.numB w lo hi⟩ gm N1 N2 (SX.T1 sp SX.ofS hi slots u) w') := Lib.hid fun U hS => by
    rw [hv a N1 hN1]
    exact HD1.out ⟨w, [[(g, .cells cc 34 (0, 0))]], SX.numB w lo hi⟩ rfl gm U hS
  have HDb : Hid (∀ (R : List Grp) (u : Nat) (U : World), SX.Sd ⟨w, R, SX.numB w lo hi⟩ gm N1 N2 (SX.T1 sp SX.ofS hi slots u) U → Calls Tryz.prog 13 #[.pointer (some ⟨gm, 0, none⟩), .agg #[.int .i64 1, .int .i64 0, .int .u64 (IntKind.u64.wrap ((lo : Int) + 1 + (b : Int) % ((hi : Int) - ((lo : Int) + 1) + 1))), .int .u64 0, .int .i64 0, .int .u64 0, .bool false, .int .i64 0, .slice none 0 0, .slice none 0 0]] U fun e w' =>
      ∃ v : Nat, e = .returned (.agg #[.int .u64 (v : Int), .int .u64 (hi : Int), .int .i64 0]) ∧ SX.Sd ⟨w, R, SX.numB w lo hi⟩ gm N1 N2 (SX.T2 SX.ofS hi slots u v) w') := Lib.hid fun R u U hS => by
    rw [hv b N2 hN2]
    exact SX.do_h (C := ⟨w, R, SX.numB w lo hi⟩) hsp 2 (fun _ h => h.b) (T := SX.T2 SX.ofS hi slots u) hS
  clear hv HD1 HFr
  go_wp2_with (first
    | (go_at_call 13; refine (HDa.out _ hS1.out).mono ?_; rintro e w4 ⟨u, rfl, hS2⟩; replace hS2 := Lib.hid (hS2.add (.cells #[.int .u64 (u : Int), .int .u64 (hi : Int), .int .i64 0] 37)); clear HDa hS1)
    | (go_at_call 13; refine (HDb.out _ _ _ hS2.out).mono ?_; rintro e w5 ⟨v, rfl, hS3⟩; replace hS3 := Lib.hid (hS3.add (.cells #[.int .u64 (v : Int), .int .u64 (hi : Int), .int .i64 0] 37)); refine holdR ?_))
  have e1 := hS3.out.has (G := [(w4.heap.size, .cells #[.int .u64 (u : Int), .int .u64 (hi : Int), .int .i64 0] 37 (0, 0))]) (by simp) (List.mem_singleton.2 rfl)
  have e2 := hS3.out.has (G := [(w5.heap.size, .cells #[.int .u64 (v : Int), .int .u64 (hi : Int), .int .i64 0] 37 (0, 0))]) (by simp) (List.mem_singleton.2 rfl)
  have e3 := hS3.out.has (G := [(g, .cells cc 34 (0, 0))]) (by simp) (List.mem_singleton.2 rfl)
  have x0 := cell_blk e1 0
  have x1 := cell_blk e1 1
  have x2 := cell_blk e1 2
  have y0 := cell_blk e2 0
  have y1 := cell_blk e2 1
  have y2 := cell_blk e2 2
  have ts := (cell_blk e3 ((m + 1) * 4 + 2)).trans (hcell.out _ _ hc.rsl)
  simp only [List.getElem?_toArray, List.getElem?_cons_zero, List.getElem?_cons_succ] at x0 x1 x2 y0 y1 y2
  clear e1 e2 e3 HDb hS2
  unfold HeldR
  rename_i hK6
  refine hK6 _ _ ?_
  clear hK6
  go_wp2
  obtain ⟨w6, hw6⟩ : ∃ w6, w6 = w5.alloc (.cells #[.int .u64 (v : Int), .int .u64 (hi : Int), .int .i64 0] 37) := ⟨_, rfl⟩
  rw [← hw6] at hS3 x0 x1 x2 y0 y1 y2 ts ⊢
  clear hw6
  have hS4 := Lib.hid (hS3.out.fr ((Fr.refl _ w6).drew))
  have hcells : Hid (∀ (T : SX.Heap → Nat → SX.Tree) (U : World), SX.Sd ⟨w, [[(w5.heap.size, .cells #[.int .u64 (v : Int), .int .u64 (hi : Int), .int .i64 0] 37 (0, 0))], [(w4.heap.size, .cells #[.int .u64 (u : Int), .int .u64 (hi : Int), .int .i64 0] 37 (0, 0))], [(g, .cells cc 34 (0, 0))]], SX.numB w lo hi⟩ gm N1 N2 T U →
      U.cell? ⟨w4.heap.size, 0, none⟩ = some (.int .u64 (u : Int)) ∧ U.cell? ⟨w5.heap.size, 0, none⟩ = some (.int .u64 (v : Int))) := Lib.hid fun T U hS => by
    have e1 := hS.has (G := [(w4.heap.size, .cells #[.int .u64 (u : Int), .int .u64 (hi : Int), .int .i64 0] 37 (0, 0))]) (by simp) (List.mem_singleton.2 rfl)
    have e2 := hS.has (G := [(w5.heap.size, .cells #[.int .u64 (v : Int), .int .u64 (hi : Int), .int .i64 0] 37 (0, 0))]) (by simp) (List.mem_singleton.2 rfl)
    exact ⟨by rw [cell_blk e1 0]; rfl, by rw [cell_blk e2 0]; rfl⟩
  by_cases hs1 : slots = 1
  · have gs : ((slots : Int) == 1) = true := by rw [hs1]; rfl
    have hfr : Hid (Fr (fun _ => False) w w6.drew) := Lib.hid (hS4.out.end_fr fun h n hd => SX.T2_one hs1 h n hd)
    have HA := Lib.hid (fun (U : World) (hU : Fr (fun _ => False) w U) => hAw U (hL.fr hU))
    clear hS3 hS4 hcells
    subst hs1
    have k0 : (0 : Int) ≤ (m : Int) + 1 := by omega
    have ts1 : w6.cell? ⟨g, (m + 1) * 4 + 2, none⟩ = some (.int .i64 1) := ts
    clear hd hsp hc gs x0 x1 x2 y0 y1 y2 ts hcell hp1 HT hm1 hm2 g1 g2 g2' hw1 hN1 hN2 hm3 hm4 hlt hle hmx k1 k4
    refine wp_region_still_tail 27 (by kernel_rfl) (by kernel_rfl) ?_
    simp only [List.take_succ_cons, List.take_zero, List.drop_succ_cons, List.drop_zero]
    iterate 6 still_step
    refine still_moved 18 (v := .bool true) rfl rfl ?_ ?_ ?_
    · rfl
    · kernel_rfl
    simp only [List.drop_succ_cons, List.drop_zero]
    iterate 2 still_step
    refine wpStill_nil ?_
    change wpList _ _ _ _ _ w6.drew
    generalize w6.drew = w7 at hfr ⊢
    go_wp2_with (first
      | (go_at_call 11; refine (HA.out _ hfr.out).mono ?_; rintro e w9 ⟨rfl, hf9⟩; replace hf9 := Lib.hid hf9))
    all_goals (refine ⟨rfl, .bool true, ?_, rfl, hfr.out.trans hf9.out (fun _ _ h => h)⟩; first | rfl | (simp [go_sem, results]; done) | (go_simp; done))
  · have gs : ((slots : Int) == 1) = false := by rw [beq_eq_false_iff_ne]; omega
    have hS5 : Hid (SX.Sd _ gm N1 N2 _ w6.drew) := Lib.hid (SX.T2_no hs1 ▸ hS4.out)
    have HO1 := Lib.hid (SX.of_h (SX.ofS_ok hL lo hi) u hS5.out)
    have HO2 : Hid (∀ (i : Nat) (U : World), SX.Sd ⟨w, [[(w5.heap.size, .cells #[.int .u64 (v : Int), .int .u64 (hi : Int), .int .i64 0] 37 (0, 0))], [(w4.heap.size, .cells #[.int .u64 (u : Int), .int .u64 (hi : Int), .int .i64 0] 37 (0, 0))], [(g, .cells cc 34 (0, 0))]], SX.numB w lo hi⟩ gm N1 N2 (SX.T3 SX.ofS hi u v i) U → Calls Tryz.prog 14 #[.pointer (some ⟨gm, 0, none⟩), .int .u64 (v : Int)] U fun e w' =>
      e = .returned (.int .i64 (i : Int)) ∧ IntKind.u64.wrap ((u : Int) + (hi : Int)) = (v : Int) ∧ (w'.cell? ⟨w4.heap.size, 0, none⟩ = some (.int .u64 (u : Int)) ∧ w'.cell? ⟨w5.heap.size, 0, none⟩ = some (.int .u64 (v : Int))) ∧ Fr (fun _ => False) w w') := Lib.hid fun i U hS => by
      refine (SX.of_h (C := ⟨w, [[(w5.heap.size, .cells #[.int .u64 (v : Int), .int .u64 (hi : Int), .int .i64 0] 37 (0, 0))], [(w4.heap.size, .cells #[.int .u64 (u : Int), .int .u64 (hi : Int), .int .i64 0] 37 (0, 0))], [(g, .cells cc 34 (0, 0))]], SX.numB w lo hi⟩) (SX.ofS_ok hL lo hi) v (T := SX.T4 hi u v i) hS).mono ?_
      rintro e w' ⟨j, rfl, hS7⟩
      obtain ⟨hij, huv, hv64⟩ := hS7.t4
      refine ⟨by rw [hij], ?_, hcells.out _ _ hS7, hS7.end_fr fun h n hd => (SX.T4_den hd).2.2.2⟩
      rw [huv]
      exact SX.wrap_fits (k := .u64) ⟨by show (0 : Int) ≤ _; omega, by show _ ≤ (18446744073709551615 : Int); omega⟩
    have HA := Lib.hid (fun (U : World) (hU : Fr (fun _ => False) w U) => hAw U (hL.fr hU))
    clear hS3 hS4 hS5 hs1 hd hsp
    go_region_with (first
      | (go_at_call 14; refine HO1.out.mono ?_; rintro e w7 ⟨i, rfl, hS6⟩; have hcs7 := hcells.out _ _ hS6; obtain ⟨p0, p1⟩ := hcs7; replace hS6 := Lib.hid hS6; clear HO1)
      | (go_at_call 14; refine (HO2.out _ _ hS6.out).mono ?_; rintro e w8 ⟨rfl, hsum, ⟨q0, q1⟩, hfr8⟩; replace hfr8 := Lib.hid hfr8; clear HO2)
      | (go_at_call 11; refine (HA.out _ hfr8.out).mono ?_; rintro e w9 ⟨rfl, hf9⟩; replace hf9 := Lib.hid hf9))
    all_goals go_wp2
    all_goals (refine ⟨rfl, .bool true, ?_, rfl, hfr8.out.trans hf9.out (fun _ _ h => h)⟩; first | rfl | (simp [go_sem, results]; done) | (go_simp; done))
end Go.Proofs.YtnjaaagiindclaaGreatDoor
