/-
  Part 23 of what the statement leans on: Lwz.
-/
import Derived.Test.YtnjaaagiindclaaGreatDoorPk16
import Derived.Test.YtnjaaagiindclaaGreatDoorPk22
import Derived.Deep.RegionWith
import Derived.Deep.QuietTactic
import Derived.Deep.RegionHeld3
/-
  MallocZombies, walked. The table of TrailingZeros64 lies.
-/
namespace Go.Proofs.YtnjaaagiindclaaGreatDoor
open Go.RowKit Go.Deep
attribute [local go_sem] Oper.semAt_some
namespace SX
variable {P : Program} {C : Ctx} {f : FuncId} {sp : Spec} {g N1 N2 : Nat} {w : World}
theorem len1 {l : List Nat} (h : l.length = 1) : ∃ a, l = [a] := by
  match l, h with | [a], _ => exact ⟨a, rfl⟩
theorem len3 {l : List Nat} (h : l.length = 3) : ∃ a b c, l = [a, b, c] := by
  match l, h with | [a, b, c], _ => exact ⟨a, b, c, rfl⟩
theorem len11 {l : List Nat} (h : l.length = 11) : ∃ a b c d e f g i j k m, l = [a, b, c, d, e, f, g, i, j, k, m] := by
  match l, h with | [a, b, c, d, e, f, g, i, j, k, m], _ => exact ⟨a, b, c, d, e, f, g, i, j, k, m, rfl⟩
theorem step_r (hs : SpecEnters P C.B f sp) {args : List SV} {vs : Array Value} (ha : ∀ ρ, Ids ρ g N1 N2 → RelL ρ args vs.toList) {T : List Nat → Heap → Nat → Tree} (h : Sd C g N1 N2 (stepT sp args shR T) w) :
    Calls P f vs w fun e w' => ∃ x y z : Nat, e = .returned (.agg #[.int .u64 (x : Int), .int .u64 (y : Int), .int .i64 (z : Int)]) ∧ Sd C g N1 N2 (T [x, y, z]) w' := by
  refine (step_h hs ha shR h).mono ?_
  rintro e w' ⟨ns, hn, rfl, hS⟩
  obtain ⟨x, y, z, rfl⟩ := len3 hn
  exact ⟨x, y, z, rfl, hS⟩
theorem step_b (hs : SpecEnters P C.B f sp) {args : List SV} {vs : Array Value} (ha : ∀ ρ, Ids ρ g N1 N2 → RelL ρ args vs.toList) {T : List Nat → Heap → Nat → Tree} (h : Sd C g N1 N2 (stepT sp args shB T) w) :
    Calls P f vs w fun e w' => ∃ x : Nat, e = .returned (.bool (Nat.beq x 1)) ∧ Sd C g N1 N2 (T [x]) w' := by
  refine (step_h hs ha shB h).mono ?_
  rintro e w' ⟨ns, hn, rfl, hS⟩
  obtain ⟨x, rfl⟩ := len1 hn
  exact ⟨x, rfl, hS⟩
theorem step_i (hs : SpecEnters P C.B f sp) {args : List SV} {vs : Array Value} (ha : ∀ ρ, Ids ρ g N1 N2 → RelL ρ args vs.toList) {T : List Nat → Heap → Nat → Tree} (h : Sd C g N1 N2 (stepT sp args (.s (some .i64)) T) w) :
    Calls P f vs w fun e w' => ∃ x : Nat, e = .returned (.int .i64 (x : Int)) ∧ Sd C g N1 N2 (T [x]) w' := by
  refine (step_h hs ha (.s (some .i64)) h).mono ?_
  rintro e w' ⟨ns, hn, rfl, hS⟩
  obtain ⟨x, rfl⟩ := len1 hn
  exact ⟨x, rfl, hS⟩
theorem step_inf (hs : SpecEnters P C.B f sp) {args : List SV} {vs : Array Value} (ha : ∀ ρ, Ids ρ g N1 N2 → RelL ρ args vs.toList) {T : List Nat → Heap → Nat → Tree} (h : Sd C g N1 N2 (stepT sp args shI T) w) :
    Calls P f vs w fun e w' => ∃ b p s c o m l u q r x : Nat, e = .returned (.tuple #[.agg #[.int .u64 (b : Int), .int .i64 (p : Int), .int .i64 (s : Int), .int .i64 (c : Int), .bool (Nat.beq o 1), .int .i64 (m : Int), .int .i64 (l : Int), .int .i64 (u : Int), .bool (Nat.beq q 1), .bool (Nat.beq r 1)], .int .i64 (x : Int)]) ∧
      Sd C g N1 N2 (T [b, p, s, c, o, m, l, u, q, r, x]) w' := by
  refine (step_h hs ha shI h).mono ?_
  rintro e w' ⟨ns, hn, rfl, hS⟩
  obtain ⟨b, p, s, c, o, m, l, u, q, r, x, rfl⟩ := len11 hn
  exact ⟨b, p, s, c, o, m, l, u, q, r, x, rfl, hS⟩
theorem stepV_r {I : World} {R : List Grp} {B : BigRep} (hs : SpecEnters P B f sp) {args : SV → List SV} {vs : Value → Array Value} {z : Nat} (ha : ∀ ρ s v, Ids ρ g N1 N2 → SV.Rel ρ s v → RelL ρ (args s) (vs v).toList) {T : List Nat → Heap → Nat → Tree}
    {s s0 : Nat} (h0 : s0 = s) (h : Sd ⟨I, [(s0, .cells #[.int .u64 (z : Int)] 22 (0, 0))] :: R, B⟩ g N1 N2 (stepV sp args z shR T) w) :
    Calls P f (vs (.slice (some ⟨s, 0, none⟩) 1 1)) w fun e w' => ∃ x y z : Nat, e = .returned (.agg #[.int .u64 (x : Int), .int .u64 (y : Int), .int .i64 (z : Int)]) ∧ Sd ⟨I, R, B⟩ g N1 N2 (T [x, y, z]) w' := by
  refine (stepV_h hs ha shR h0 h).mono ?_
  rintro e w' ⟨ns, hn, rfl, hS⟩
  obtain ⟨x, y, z, rfl⟩ := len3 hn
  exact ⟨x, y, z, rfl, hS⟩
/-- what is asked ahead -/
theorem Sd.ok {T : Heap → Nat → Tree} {b : Bool} (h : Sd C g N1 N2 (fun h n => okN b (T h n)) w) : b = true ∧ Sd C g N1 N2 T w := by
  obtain ⟨ρ, h, n, hH, hbd, hI, hd⟩ := h
  obtain ⟨hb, hd⟩ := okN_den hd
  exact ⟨hb, ρ, h, n, hH, hbd, hI, hd⟩
theorem Sd.both {T U : Heap → Nat → Tree} (h : Sd C g N1 N2 (fun h n => .both (T h n) (U h n)) w) : Sd C g N1 N2 T w ∧ Sd C g N1 N2 U w := by
  obtain ⟨ρ, h, n, hH, hbd, hI, hd⟩ := h
  exact ⟨⟨ρ, h, n, hH, hbd, hI, hd.1⟩, ⟨ρ, h, n, hH, hbd, hI, hd.2⟩⟩
theorem Sd.setCell {I : World} {R : List Grp} {B : BigRep} {s t : Nat} {c : Array Value} {f : Nat × Nat} {T : Heap → Nat → Tree} (h : Sd ⟨I, [(s, .cells c t f)] :: R, B⟩ g N1 N2 T w) (i : Nat) (v : Value) : Sd ⟨I, [(s, .cells (c.setIfInBounds i v) t f)] :: R, B⟩ g N1 N2 T (w.setCell ⟨s, i, none⟩ v) := by
  obtain ⟨ρ, h, n, ⟨Gs, hr, hp⟩, r⟩ := h
  exact ⟨ρ, h, n, ⟨Gs, hr, ((hp.permG List.perm_middle).set i v).permG List.perm_middle.symm⟩, r⟩
theorem arg1 {ρ : Ren} {y : SV} {v : Value} (hI : Ids ρ g N1 N2) (hy : y.Rel ρ v) : RelL ρ [F0v, y] (#[.pointer (some ⟨g, 0, none⟩), v] : Array Value).toList := by
  obtain ⟨b, e, hb⟩ := hI.m
  rw [e]
  exact .cons (by simp only [SV.Rel]; exact ⟨g, hb, rfl⟩) (.cons hy .nil)
theorem arg0 {ρ : Ren} (hI : Ids ρ g N1 N2) : RelL ρ [F0v] (#[.pointer (some ⟨g, 0, none⟩)] : Array Value).toList := by
  obtain ⟨b, e, hb⟩ := hI.m
  rw [e]
  exact .cons (by simp only [SV.Rel]; exact ⟨g, hb, rfl⟩) .nil
theorem Sd.endF {w0 : World} {R : List Grp} {lo hi : Nat} (h : Sd ⟨w0, R, numB w0 lo hi⟩ g N1 N2 endT w) : Fr (fun _ => False) w0 w := h.end_fr fun _ _ hd => (okN_den hd).1
/-- so many blocks are still to come; where none is, the last one's place -/
def Zst (dz dd bl inf of : Spec) (C : Ctx) (g N : Nat) (k x : Nat) (w : World) : Prop :=
  (∃ a c : Nat, a + 1 ≤ k ∧ k ≤ a + 1 + c ∧ Sd C g N N (stepT dz (callN 1) shR (zE dz dd bl inf of c a)) w) ∨ (k = 0 ∧ Sd C g N N (zT0 dz dd bl inf of x) w)
/-- a block -/
theorem Zst.go {dz dd bl inf of : Spec} {I : World} {lo hi : Nat} {R : List Grp} {N k x0 : Nat} (hs : SpecEnters Tryz.prog (numB I lo hi) 13 dz) (h : Zst dz dd bl inf of ⟨I, R, numB I lo hi⟩ g N (k + 1) x0 w) :
    Calls Tryz.prog 13 #[.pointer (some ⟨g, 0, none⟩), callV N] w fun e w' => ∃ x y : Nat, e = .returned (.agg #[.int .u64 (x : Int), .int .u64 (y : Int), .int .i64 0]) ∧ Zst dz dd bl inf of ⟨I, R, numB I lo hi⟩ g N k x w' := by
  rcases h with ⟨a, c, h1, h2, hS⟩ | ⟨h0, _⟩
  · refine (step_r hs (fun ρ hI => callN_rel hI hI.a) hS).mono ?_
    rintro e w' ⟨x, y, z, rfl, hS2⟩
    cases a with
    | zero => cases c with
      | zero =>
        have h3 : Sd ⟨I, R, numB I lo hi⟩ g N N (zD dz dd bl inf of 0 [x, y, z]) w' := hS2
        obtain ⟨hz, h4⟩ := Sd.ok h3
        have hz : z = 0 := Nat.eq_of_beq_eq_true hz
        subst hz
        exact ⟨x, y, rfl, .inr ⟨by omega, h4⟩⟩
      | succ c =>
        have h3 : Sd ⟨I, R, numB I lo hi⟩ g N N (zD dz dd bl inf of (c + 1) [x, y, z]) w' := hS2
        obtain ⟨hz, h4⟩ := Sd.ok h3
        have hz : z = 0 := Nat.eq_of_beq_eq_true hz
        subst hz
        obtain ⟨h5, h6⟩ := Sd.both h4
        refine ⟨x, y, rfl, ?_⟩
        by_cases hk : k = 0
        · exact .inr ⟨hk, h5⟩
        · exact .inl ⟨0, c, by omega, by omega, h6⟩
    | succ a =>
      obtain ⟨hz, h4⟩ := Sd.ok hS2
      have hz : z = 0 := Nat.eq_of_beq_eq_true hz
      subst hz
      exact ⟨x, y, rfl, .inl ⟨a, c, by omega, by omega, h4⟩⟩
  · omega
theorem Zst.end {dz dd bl inf of : Spec} {N x : Nat} (h : Zst dz dd bl inf of C g N 0 x w) : Sd C g N N (zT0 dz dd bl inf of x) w := by
  rcases h with ⟨a, c, h1, _, _⟩ | ⟨_, h⟩
  · omega
  · exact h
theorem Zst.setCell {dz dd bl inf of : Spec} {I : World} {R : List Grp} {B : BigRep} {s t N k x : Nat} {c : Array Value} {f : Nat × Nat} (h : Zst dz dd bl inf of ⟨I, [(s, .cells c t f)] :: R, B⟩ g N k x w) (i : Nat) (v : Value) : Zst dz dd bl inf of ⟨I, [(s, .cells (c.setIfInBounds i v) t f)] :: R, B⟩ g N k x (w.setCell ⟨s, i, none⟩ v) := by
  rcases h with ⟨a, d, h1, h2, h3⟩ | ⟨h1, h2⟩
  · exact .inl ⟨a, d, h1, h2, h3.setCell i v⟩
  · exact .inr ⟨h1, h2.setCell i v⟩
theorem Zst.fr {dz dd bl inf of : Spec} {N k x : Nat} {w' : World} (h : Zst dz dd bl inf of C g N k x w) (hf : Fr (fun _ => False) w w') : Zst dz dd bl inf of C g N k x w' := by
  rcases h with ⟨a, d, h1, h2, h3⟩ | ⟨h1, h2⟩
  · exact .inl ⟨a, d, h1, h2, h3.fr hf⟩
  · exact .inr ⟨h1, h2.fr hf⟩
theorem Zst.has {dz dd bl inf of : Spec} {N k x : Nat} (h : Zst dz dd bl inf of C g N k x w) {b : Nat} {o : Obj} {G : Grp} (hG : G ∈ C.R) (hx : (b, o) ∈ G) : w.heap[b]? = some o := by
  rcases h with ⟨a, d, h1, h2, h3⟩ | ⟨h1, h2⟩
  · exact h3.has hG hx
  · exact h2.has hG hx
end SX
theorem wrap64_nat {q : Nat} (h : q < 9223372036854775808) : wrap64 (q : Int) = (q : Int) := by unfold wrap64; omega
theorem odd_or (c : Int) : bits .and .i64 c 1 = 0 ∨ bits .and .i64 c 1 = 1 := by
  unfold bits
  simp only [BitVec.toNat_and]
  have e : (BitVec.ofInt IntKind.i64.bits 1).toNat = 1 := by decide
  rw [e, Nat.and_one_is_mod]
  rcases Nat.mod_two_eq_zero_or_one (BitVec.ofInt IntKind.i64.bits c).toNat with h | h <;> rw [h]
  · exact .inl (by decide)
  · exact .inr (by decide)
/-- a tree whose asks hold -/
structure SX.Den (T : SX.Tree) : Prop where
  d : T.den fun _ _ => False
/-- a size, and how many blocks: what is to be known of them -/
structure ClsZ (lo hi N n : Nat) : Prop where
  run : ∀ W, Laid W → ∃ (dz dd bl inf of : SX.Spec) (a c : Nat), (SX.SpecEnters Tryz.prog (SX.numB W lo hi) 13 dz ∧ SX.SpecEnters Tryz.prog (SX.numB W lo hi) 18 dd ∧ SX.SpecEnters Tryz.prog (SX.numB W lo hi) 15 bl ∧
    SX.SpecEnters Tryz.prog (SX.numB W lo hi) 17 inf ∧ SX.SpecEnters Tryz.prog (SX.numB W lo hi) 14 of) ∧ a + 1 ≤ n ∧ n ≤ a + 1 + c ∧ SX.Den (SX.stepT dz (SX.callN 1) SX.shR (SX.zE dz dd bl inf of c a) SX.F0h SX.F0n)
  lo : lo < N
  hi : N ≤ hi
  l16 : 16 ≤ N
  h2k : N ≤ 2048
  l1 : 1 ≤ n
  h20 : n ≤ 20
set_option maxRecDepth 100000 in
set_option maxHeartbeats 4000000 in
theorem law_zin {lo hi N n : Nat} (hc : ClsZ lo hi N n) (c : Int) (w : World) (hL : Laid w)
    (hAw : ∀ U, Laid U → Calls Tryz.prog 11 #[] U fun e w' => e = .returned (.bool true) ∧ Fr (fun _ => False) U w') :
    Calls Tryz.prog 5 #[.int .i64 (n : Int), .int .u64 (N : Int), .int .i64 c] w fun e w' => e = .returned (.bool true) ∧ Fr (fun _ => False) w w' := by
  obtain ⟨dz, dd, bl, inf, of, a0, c0, ⟨hsz, hsd, hsb, hsi, hso⟩, hr1, hr2, hd⟩ := hc.run w hL
  have n1 := hc.l1
  have n2 := hc.h20
  have n3 := hc.l16
  have n4 := hc.h2k
  have g1 : decide ((n : Int) < 1) = false := by simp; omega
  have g2 : decide ((n : Int) > 20) = false := by simp; omega
  have g3 : decide ((N : Int) < 16) = false := by simp; omega
  have g4 : decide ((N : Int) > 2048) = false := by simp; omega
  have HFr := Lib.hid (fun (U : World) (R : List Grp) (hp : Hp w U (R ++ [SX.allG w])) => SX.fresh_h (lo := lo) (hi := hi) (N1 := N) (N2 := N) hp hc.lo hc.hi hc.lo hc.hi (T := SX.stepT dz (SX.callN 1) SX.shR (SX.zE dz dd bl inf of c0 a0)) hd.d)
  have HP : Hid (Hp w w ([] ++ [SX.allG w])) := Lib.hid ⟨⟨rfl, rfl, rfl⟩, by simp only [List.nil_append, List.flatten_cons, List.flatten_nil, List.append_nil, SX.allG_fst]; exact List.nodup_range, fun x hx => SX.allG_is (by simpa using hx)⟩
  clear hd
  go_enter Tryz.func5, Tryz.ntmps5
  go_wp2_with (first
    | (go_at_call 12; refine (HFr.out _ [] HP.out).mono ?_; rintro e w2 ⟨gm, rfl, hS0⟩; replace hS0 := Lib.hid hS0))
  obtain ⟨sl, hsl⟩ : ∃ sl, sl = w2.heap.size := ⟨_, rfl⟩
  have hZ := Lib.hid (show SX.Zst dz dd bl inf of ⟨w, [[(sl, .cells #[.int .u64 ((0 : Nat) : Int), .int .u64 ((0 : Nat) : Int), .int .i64 0] 37 (0, 0))]], SX.numB w lo hi⟩ gm N n 0 (w2.alloc (.cells #[.int .u64 0, .int .u64 0, .int .i64 0] 37)) from .inl ⟨a0, c0, hr1, hr2, by rw [hsl]; exact hS0.out.add _⟩)
  rw [← hsl]
  clear HFr HP hS0 g1 g2 g3 g4 hr1 hr2
  obtain ⟨w3, hw3⟩ : ∃ w3, w3 = w2.alloc (.cells #[.int .u64 0, .int .u64 0, .int .i64 0] 37) := ⟨_, rfl⟩
  rw [← hw3] at hZ ⊢
  clear hw3 hsl
  have HD := Lib.hid (fun (k x0 : Nat) (R : List Grp) (U : World) (hS : SX.Zst dz dd bl inf of ⟨w, R, SX.numB w lo hi⟩ gm N (k + 1) x0 U) => SX.Zst.go hsz hS)
  unfold SX.callV at HD
  go_loopg [9] n (fun k i wr => ∃ (j x y : Nat), i = .int .i64 (j : Int) ∧ Hid (j + k = n) ∧ Hid (SX.Zst dz dd bl inf of ⟨w, [[(sl, .cells #[.int .u64 (x : Int), .int .u64 (y : Int), .int .i64 0] 37 (0, 0))]], SX.numB w lo hi⟩ gm N k x wr))
  case atStart => exact ⟨0, 0, 0, rfl, Lib.hid (by omega), hZ⟩
  case round =>
    obtain ⟨j, x, y, rfl, hj, hz⟩ := hrel
    clear hZ
    by_cases hlt : j < n
    · have hk : Hid (gk = (gk - 1) + 1) := Lib.hid (by have := hj.out; omega)
      have hz1 := Lib.hid (hk.out ▸ hz.out)
      have g1 : decide ((j : Int) < (n : Int)) = true := by simp; omega
      have gj : (j : Int) < (n : Int) := by omega
      go_wp2_with (first
        | (go_at_call 13; refine (HD.out _ _ _ _ hz1.out).mono ?_; rintro e w4 ⟨x', y', rfl, hz4⟩; replace hz4 := Lib.hid hz4; have hb4 := hz4.out.has (List.mem_singleton.2 rfl) (List.mem_singleton.2 rfl); have fb0 := free_blk hb4 0; have fb1 := free_blk hb4 1; have fb2 := free_blk hb4 2; obtain ⟨cb0, cb1, cb2⟩ := blk3 hb4))
      go_roundg (gk - 1)
      case rel => exact ⟨j + 1, x', y', by go_num, Lib.hid (by have := hj.out; have := hk.out; omega), Lib.hid (((hz4.out.setCell 0 _).setCell 1 _).setCell 2 _)⟩
      case measure => have := hk.out; omega
    · have hk0 : gk = 0 := by have := hj.out; omega
      have hjn : j = n := by have := hj.out; omega
      subst hk0
      subst hjn
      have hS := Lib.hid hz.out.end
      have hbl := hS.out.has (List.mem_singleton.2 rfl) (List.mem_singleton.2 rfl)
      have gj : decide ((j : Int) < (j : Int)) = false := by simp
      have xb0 := (blk3 hbl).1
      clear hj hz HD hbl
      have HO := Lib.hid (SX.step_i hso (fun ρ hI => SX.arg1 hI (v := .int .u64 (x : Int)) (by simp only [SX.SV.Rel])) hS.out)
      go_wp2_with (go_at_call 14; refine HO.out.mono ?_; rintro e w4 ⟨id, rfl, hS4⟩; clear HO hS xb0; have HI := Lib.hid (SX.step_inf hsi (fun ρ hI => SX.arg1 hI (v := .int .i64 (id : Int)) (by simp only [SX.SV.Rel]; rfl)) hS4); clear hS4)
      refine HI.out.mono ?_
      rintro e w5 ⟨ib, ip, is, ic, io, im, il, iu, iq, ir, ix, rfl, hS5⟩
      clear HI
      have hix : ix = 0 := Nat.eq_of_beq_eq_true hS5.ok.1
      subst hix
      have hS6 := Lib.hid (hS5.ok.2.add (.cells #[.int .u64 (ib : Int), .int .i64 (ip : Int), .int .i64 (is : Int), .int .i64 (ic : Int), .bool (Nat.beq io 1), .int .i64 (im : Int), .int .i64 (il : Int), .int .i64 (iu : Int), .bool (Nat.beq iq 1), .bool (Nat.beq ir 1)] 51))
      clear hS5
      by_cases hul : iu = il
      · have gul : ((iu : Int) == (il : Int)) = true := by rw [hul]; exact beq_self_eq_true _
        have hfr : Hid (Fr (fun _ => False) w (w5.alloc (.cells #[.int .u64 (ib : Int), .int .i64 (ip : Int), .int .i64 (is : Int), .int .i64 (ic : Int), .bool (Nat.beq io 1), .int .i64 (im : Int), .int .i64 (il : Int), .int .i64 (iu : Int), .bool (Nat.beq iq 1), .bool (Nat.beq ir 1)] 51))) := by
          have hS7 := hS6.out
          have e : (fun (h : SX.Heap) (n : Nat) => (Bool.rec (motive := fun _ => SX.Tree) (SX.okN (Nat.blt (SX.freeOf [ib, ip, is, ic, io, im, il, iu, iq, ir, 0]) 9223372036854775808) (SX.stepV dz (SX.awL 6 0 0) (SX.freeOf [ib, ip, is, ic, io, im, il, iu, iq, ir, 0]) SX.shR (SX.zT3 dz dd bl) h n)) (SX.endT h n) (Nat.beq iu il))) = SX.endT := by
            funext h n
            rw [hul, Nat.beq_refl]
          exact Lib.hid (e ▸ hS7 : SX.Sd _ _ _ _ _ _).endF
        clear hS6 hul
        go_wp2
        all_goals (refine ⟨rfl, .bool true, ?_, rfl, hfr.out⟩; first | rfl | (simp [go_sem, results]; done) | (go_simp; done))
      · have gul : ((iu : Int) == (il : Int)) = false := by rw [beq_eq_false_iff_ne]; omega
        obtain ⟨F, hF⟩ : ∃ F, F = SX.freeOf [ib, ip, is, ic, io, im, il, iu, iq, ir, 0] := ⟨_, rfl⟩
        have hS7 : SX.Sd ⟨w, [[(w5.heap.size, .cells #[.int .u64 (ib : Int), .int .i64 (ip : Int), .int .i64 (is : Int), .int .i64 (ic : Int), .bool (Nat.beq io 1), .int .i64 (im : Int), .int .i64 (il : Int), .int .i64 (iu : Int), .bool (Nat.beq iq 1), .bool (Nat.beq ir 1)] 51 (0, 0))], [(sl, .cells #[.int .u64 (x : Int), .int .u64 (y : Int), .int .i64 0] 37 (0, 0))]], SX.numB w lo hi⟩ gm N N
            (fun h n => SX.okN (Nat.blt F 9223372036854775808) (SX.stepV dz (SX.awL 6 0 0) F SX.shR (SX.zT3 dz dd bl) h n)) (w5.alloc (.cells #[.int .u64 (ib : Int), .int .i64 (ip : Int), .int .i64 (is : Int), .int .i64 (ic : Int), .bool (Nat.beq io 1), .int .i64 (im : Int), .int .i64 (il : Int), .int .i64 (iu : Int), .bool (Nat.beq iq 1), .bool (Nat.beq ir 1)] 51)) := by
          have hS8 := hS6.out
          have e : (fun (h : SX.Heap) (n : Nat) => (Bool.rec (motive := fun _ => SX.Tree) (SX.okN (Nat.blt (SX.freeOf [ib, ip, is, ic, io, im, il, iu, iq, ir, 0]) 9223372036854775808) (SX.stepV dz (SX.awL 6 0 0) (SX.freeOf [ib, ip, is, ic, io, im, il, iu, iq, ir, 0]) SX.shR (SX.zT3 dz dd bl) h n)) (SX.endT h n) (Nat.beq iu il))) =
              fun h n => SX.okN (Nat.blt F 9223372036854775808) (SX.stepV dz (SX.awL 6 0 0) F SX.shR (SX.zT3 dz dd bl) h n) := by
            funext h n
            have hb : Nat.beq iu il = false := by
              cases hq : Nat.beq iu il with
              | false => rfl
              | true => exact absurd (Nat.eq_of_beq_eq_true hq) hul
            rw [hb, hF]
          exact (e ▸ hS8 : SX.Sd _ _ _ _ _ _)
        have hlt63 : F < 9223372036854775808 := by have := hS7.ok.1; simpa [Nat.blt_eq] using this
        have hS9 := Lib.hid (hS7.ok.2.add (.cells #[.int .u64 (F : Int)] 22))
        have hFe : F = ib + iu * im := hF
        have hfree : IntKind.u64.wrap ((ib : Int) + IntKind.u64.wrap (wrap64 ((iu : Int) * (im : Int)))) = (F : Int) := by
          have e1 : (iu : Int) * (im : Int) = ((iu * im : Nat) : Int) := by rw [Int.natCast_mul]
          have e2 : wrap64 ((iu * im : Nat) : Int) = ((iu * im : Nat) : Int) := wrap64_nat (by omega)
          have e3 : IntKind.u64.wrap ((iu * im : Nat) : Int) = ((iu * im : Nat) : Int) := SX.wrap_fits (k := .u64) ⟨by show (0 : Int) ≤ _; omega, by show _ ≤ (18446744073709551615 : Int); omega⟩
          rw [e1, e2, e3, hFe, ← Int.natCast_add]
          exact SX.wrap_fits (k := .u64) ⟨by show (0 : Int) ≤ _; omega, by show _ ≤ (18446744073709551615 : Int); omega⟩
        clear hS6 hS7 hF hFe hul
        replace hfree := Lib.hid hfree
        go_wp2_with fail
        rw [hfree.out]
        have HC := SX.stepV_r (w := (w5.alloc (.cells #[.int .u64 (ib : Int), .int .i64 (ip : Int), .int .i64 (is : Int), .int .i64 (ic : Int), .bool (Nat.beq io 1), .int .i64 (im : Int), .int .i64 (il : Int), .int .i64 (iu : Int), .bool (Nat.beq iq 1), .bool (Nat.beq ir 1)] 51)).alloc (.cells #[.int .u64 (F : Int)] 22)) (vs := fun s => #[.pointer (some ⟨gm, 0, none⟩), SX.awV 6 0 0 s]) (s := w5.heap.size + 1) hsz (fun ρ s v hI hs => SX.awL_rel hI hs) (by simp) hS9.out
        refine HC.mono ?_
        clear HC hS9 hfree
        rintro e w6 ⟨x1, y1, z1, rfl, hS10⟩
        have hz1 : z1 = 0 := Nat.eq_of_beq_eq_true hS10.ok.1
        subst hz1
        have hS11 := Lib.hid (hS10.ok.2.add (.cells #[.int .u64 (x1 : Int), .int .u64 (y1 : Int), .int .i64 0] 37))
        clear hS10
        go_wp2_with fail
        refine (SX.step_b hsd (fun ρ hI => SX.arg0 hI) hS11.out).mono ?_
        rintro e w7 ⟨d1, rfl, hS12⟩
        have hd1 : d1 = 0 := by have := SX.nsB_eq hS12.ok.1; simpa using this
        subst hd1
        have hS13 := Lib.hid hS12.ok.2
        clear hS11 hS12
        go_wp2_with fail
        refine (SX.stepL_h hsb (fun ρ hI => SX.arg0 hI) hS13.out).mono ?_
        rintro e w8 ⟨bk, ba, bc, rfl, hbc, hS14⟩
        have hbk : 0 < bk := by have := hS14.ok.1; simpa [Nat.blt_eq] using this
        obtain ⟨hS15, hS16⟩ := hS14.ok.2.both
        replace hS15 := Lib.hid hS15
        replace hS16 := Lib.hid hS16
        clear hS13 hS14
        rcases odd_or c with hodd | hodd
        · clear hS16
          go_wp2_with fail
          have HX := fun (ob : Obj) => SX.step_r (vs := #[.pointer (some ⟨gm, 0, none⟩), .agg #[.int .i64 7, .int .i64 0, .int .u64 1048576, .int .u64 0, .int .i64 0, .int .u64 0, .bool false, .int .i64 0, .slice none 0 0, .slice none 0 0]]) hsz (fun ρ hI => SX.awL_rel (op := 7) (p := 0) (n := 1048576) hI (v := .slice none 0 0) (by simp only [SX.SV.Rel])) (hS15.out.fr ((Fr.refl _ w8).alloc ob))
          refine (HX _).mono ?_
          clear HX hS15 hodd
          rintro e w9 ⟨x2, y2, z2, rfl, hS17⟩
          have hn2 := SX.nsB_eq hS17.ok.1
          obtain ⟨rfl, rfl, rfl⟩ : x2 = 0 ∧ y2 = 0 ∧ z2 = 40 := by simpa using hn2
          have hS18 := Lib.hid hS17.ok.2
          clear hS17 hn2
          go_wp2_with fail
          refine (SX.step_b hsd (fun ρ hI => SX.arg0 hI) (hS18.out.fr ((Fr.refl _ w9).alloc _))).mono ?_
          clear hS18
          rintro e w10 ⟨d2, rfl, hS19⟩
          have hd2 : d2 = 1 := by have := SX.nsB_eq hS19.ok.1; simpa using this
          subst hd2
          have hS20 := Lib.hid hS19.ok.2
          clear hS19
          go_wp2_with fail
          refine (SX.step_r hsz (fun ρ hI => SX.callN_rel hI hI.a) hS20.out).mono ?_
          clear hS20
          rintro e w11 ⟨x3, y3, z3, rfl, hS21⟩
          have hn3 := SX.nsB_eq hS21.ok.1
          obtain ⟨rfl, rfl, rfl⟩ : x3 = 0 ∧ y3 = 0 ∧ z3 = 41 := by simpa using hn3
          have hS22 := Lib.hid (hS21.ok.2.add (.cells #[.int .u64 0, .int .u64 0, .int .i64 41] 37))
          clear hS21 hn3
          go_wp2_with fail
          have HY := SX.step_r (w := w11.alloc (.cells #[.int .u64 0, .int .u64 0, .int .i64 41] 37)) (vs := #[.pointer (some ⟨gm, 0, none⟩), .agg #[.int .i64 7, .int .i64 0, .int .u64 1, .int .u64 0, .int .i64 0, .int .u64 0, .bool false, .int .i64 0, .slice none 0 0, .slice none 0 0]]) hsz (fun ρ hI => SX.awL_rel (op := 7) (p := 0) (n := 1) hI (v := .slice none 0 0) (by simp only [SX.SV.Rel])) hS22.out
          refine HY.mono ?_
          clear HY hS22
          rintro e w12 ⟨x4, y4, z4, rfl, hS23⟩
          have hn4 := SX.nsB_eq hS23.ok.1
          obtain ⟨rfl, rfl, rfl⟩ : x4 = 0 ∧ y4 = 0 ∧ z4 = 41 := by simpa using hn4
          have hS24 := hS23.ok.2.add (.cells #[.int .u64 0, .int .u64 0, .int .i64 41] 37)
          have hbd := hS24.has (G := [(w11.heap.size, .cells #[.int .u64 0, .int .u64 0, .int .i64 41] 37 (0, 0))]) (by simp) (List.mem_singleton.2 rfl)
          have hfr12 := Lib.hid hS24.endF
          have HA := Lib.hid (fun (U : World) (hU : Fr (fun _ => False) w U) => hAw U (hL.fr hU))
          have gbk : decide ((bk : Int) > 0) = true := by simp; omega
          obtain ⟨q0, q1, q2⟩ := blk3 hbd
          clear hS23 hn4 hS24 hbd
          go_wp2_with fail
          refine (HA.out _ hfr12.out).mono ?_
          rintro e w13 ⟨rfl, hf13⟩
          replace hf13 := Lib.hid hf13
          go_wp2_with fail
          all_goals (refine ⟨rfl, .bool true, ?_, rfl, hfr12.out.trans hf13.out (fun _ _ h => h)⟩; first | rfl | (simp [go_sem, results]; done) | (go_simp; done))
        · clear hS15
          go_wp2_with fail
          have HX := fun (ob : Obj) => SX.step_r (vs := #[.pointer (some ⟨gm, 0, none⟩), .agg #[.int .i64 6, .int .i64 0, .int .u64 0, .int .u64 0, .int .i64 0, .int .u64 0, .bool false, .int .i64 0, .slice none 0 0, .slice none 0 0]]) hsz (fun ρ hI => SX.awL_rel (op := 6) (p := 0) (n := 0) hI (v := .slice none 0 0) (by simp only [SX.SV.Rel])) (hS16.out.fr ((Fr.refl _ w8).alloc ob))
          refine (HX _).mono ?_
          clear HX hS16 hodd
          rintro e w9 ⟨x2, y2, z2, rfl, hS17⟩
          have hn2 := SX.nsB_eq hS17.ok.1
          obtain ⟨rfl, rfl, rfl⟩ : x2 = 0 ∧ y2 = 0 ∧ z2 = 40 := by simpa using hn2
          have hS18 := Lib.hid hS17.ok.2
          clear hS17 hn2
          go_wp2_with fail
          refine (SX.step_b hsd (fun ρ hI => SX.arg0 hI) (hS18.out.fr ((Fr.refl _ w9).alloc _))).mono ?_
          clear hS18
          rintro e w10 ⟨d2, rfl, hS19⟩
          have hd2 : d2 = 1 := by have := SX.nsB_eq hS19.ok.1; simpa using this
          subst hd2
          have hS20 := Lib.hid hS19.ok.2
          clear hS19
          go_wp2_with fail
          refine (SX.step_r hsz (fun ρ hI => SX.callN_rel hI hI.a) hS20.out).mono ?_
          clear hS20
          rintro e w11 ⟨x3, y3, z3, rfl, hS21⟩
          have hn3 := SX.nsB_eq hS21.ok.1
          obtain ⟨rfl, rfl, rfl⟩ : x3 = 0 ∧ y3 = 0 ∧ z3 = 41 := by simpa using hn3
          have hS22 := Lib.hid (hS21.ok.2.add (.cells #[.int .u64 0, .int .u64 0, .int .i64 41] 37))
          clear hS21 hn3
          go_wp2_with fail
          have HY := SX.step_r (w := w11.alloc (.cells #[.int .u64 0, .int .u64 0, .int .i64 41] 37)) (vs := #[.pointer (some ⟨gm, 0, none⟩), .agg #[.int .i64 7, .int .i64 0, .int .u64 1, .int .u64 0, .int .i64 0, .int .u64 0, .bool false, .int .i64 0, .slice none 0 0, .slice none 0 0]]) hsz (fun ρ hI => SX.awL_rel (op := 7) (p := 0) (n := 1) hI (v := .slice none 0 0) (by simp only [SX.SV.Rel])) hS22.out
          refine HY.mono ?_
          clear HY hS22
          rintro e w12 ⟨x4, y4, z4, rfl, hS23⟩
          have hn4 := SX.nsB_eq hS23.ok.1
          obtain ⟨rfl, rfl, rfl⟩ : x4 = 0 ∧ y4 = 0 ∧ z4 = 41 := by simpa using hn4
          have hS24 := hS23.ok.2.add (.cells #[.int .u64 0, .int .u64 0, .int .i64 41] 37)
          have hbd := hS24.has (G := [(w11.heap.size, .cells #[.int .u64 0, .int .u64 0, .int .i64 41] 37 (0, 0))]) (by simp) (List.mem_singleton.2 rfl)
          have hfr12 := Lib.hid hS24.endF
          have HA := Lib.hid (fun (U : World) (hU : Fr (fun _ => False) w U) => hAw U (hL.fr hU))
          have gbk : decide ((bk : Int) > 0) = true := by simp; omega
          obtain ⟨q0, q1, q2⟩ := blk3 hbd
          clear hS23 hn4 hS24 hbd
          go_wp2_with fail
          refine (HA.out _ hfr12.out).mono ?_
          rintro e w13 ⟨rfl, hf13⟩
          replace hf13 := Lib.hid hf13
          go_wp2_with fail
          all_goals (refine ⟨rfl, .bool true, ?_, rfl, hfr12.out.trans hf13.out (fun _ _ h => h)⟩; first | rfl | (simp [go_sem, results]; done) | (go_simp; done))
end Go.Proofs.YtnjaaagiindclaaGreatDoor
