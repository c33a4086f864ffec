/-
  The reference's Put.
-/
import Derived.Test.YtanaicjeheacoaaRef
import Derived.Deep.RegionLaw
namespace Go.Proofs.Ytanaicjeheacoaa
open Go.RowKit Go.Deep
namespace Rf

/-- what the reference's Put answers, and what is there then -/
def RPuts (L : List It) (id base cls : Int) (np fu sw : Bool) (b : Nat) (c : Int) (L' : List It) : Prop :=
  ((id < 1 ∨ cls < 0 ∨ 68 ≤ cls) ∧ c = 1 ∧ L' = L) ∨ ((1 ≤ id ∧ 0 ≤ cls ∧ cls < 68) ∧ (∃ x ∈ L, x.id = id ∨ x.base = base) ∧ c = 34 ∧ L' = L) ∨
  ((1 ≤ id ∧ 0 ≤ cls ∧ cls < 68) ∧ (∀ x ∈ L, x.id ≠ id) ∧ (∀ x ∈ L, x.base ≠ base) ∧ c = 0 ∧ L' = L ++ [⟨b, id, base, (cls, np, fu, sw)⟩])

theorem put_arg (r : Nat) (w : World) (id base cls : Int) (np fu sw : Bool) (h : id < 1 ∨ cls < 0 ∨ 68 ≤ cls) :
    Calls Try.prog 18 #[.pointer (some ⟨r, 0, none⟩), .agg #[.int .i64 id, .int .u64 base, .int .i64 cls, .bool np, .bool fu, .bool sw]] w fun e w' => e = .returned (.int .i64 1) ∧ Fr (fun _ => False) w w' := by
  by_cases h1 : id < 1
  · clear h
    go_enter Try.func18, Try.ntmps18
    go_wp2
    go_ret
    exact ⟨rfl, (Fr.refl _ w).alloc _⟩
  · by_cases h2 : cls < 0
    · clear h
      go_enter Try.func18, Try.ntmps18
      go_wp2
      go_ret
      exact ⟨rfl, (Fr.refl _ w).alloc _⟩
    · have h3 : 67 < cls := by omega
      clear h
      go_enter Try.func18, Try.ntmps18
      go_wp2
      go_ret
      exact ⟨rfl, (Fr.refl _ w).alloc _⟩

theorem info_one : (Try.prog.info? 63).map (fun i => (i.zero, i.size, i.bytes)) = some (some (.agg #[.int .i64 0, .int .u64 0, .int .i64 0, .bool false, .bool false, .bool false]), 6, 32) := by kernel_rfl

set_option maxHeartbeats 4000000 in
theorem put_ok (b : Nat) {r : Nat} {L : List It} {F : Nat → Prop} (w : World) (h0 : Mine w r L F) (id base cls : Int) (np fu sw : Bool) (h1 : 1 ≤ id) (h2 : 0 ≤ cls) (h3 : cls < 68) (hn : L.length ≤ 1000000) :
    Calls Try.prog 18 #[.pointer (some ⟨r, 0, none⟩), .agg #[.int .i64 id, .int .u64 base, .int .i64 cls, .bool np, .bool fu, .bool sw]] w fun e w' => ∃ c L', e = .returned (.int .i64 c) ∧ Hid (Now w r L' F w' ∧ RPuts L id base cls np fu sw b c L') := by
  obtain ⟨a, c, h, hg⟩ := h0.is
  have hr0 := cell_blk h.root 0
  simp only [List.getElem?_toArray, List.getElem?_cons_zero] at hr0
  have hrl := lt_blk h.root
  have H := Lib.hid h
  have H0 := Lib.hid (And.intro h0 hg)
  have HC := Lib.hid (show 1 ≤ id ∧ 0 ≤ cls ∧ cls < 68 from ⟨h1, h2, h3⟩)
  clear h hg h0
  have g1 : ¬ id < 1 := by omega
  have g2 : ¬ cls < 0 := by omega
  have g3 : ¬ 67 < cls := by omega
  go_enter Try.func18, Try.ntmps18
  go_wp2_with fail
  obtain ⟨wb, hwb⟩ : ∃ wb, wb = w.alloc (.cells #[.int .i64 id, .int .u64 base, .int .i64 cls, .bool np, .bool fu, .bool sw] 63) := ⟨_, rfl⟩
  rw [← hwb]
  have hfb : Fr (fun _ => False) w wb := by rw [hwb]; exact (Fr.refl _ w).alloc _
  have hbb : wb.heap[w.heap.size]? = some (.cells #[.int .i64 id, .int .u64 base, .int .i64 cls, .bool np, .bool fu, .bool sw] 63 (0, 0)) := by rw [hwb, heap_alloc, if_pos rfl]
  have FB := Lib.hid hfb
  have BB := Lib.hid hbb
  have HB := Lib.hid (H.out.quiet hfb)
  clear hwb hfb hbb hr0
  go_loopg [5] L.length (fun k i wr => ∃ (q : Nat) (us vs : List It), wr = wb.drewN q ∧ i = .int .i64 us.length ∧ Hid (L = us ++ vs ∧ vs.length = k ∧ ∀ x ∈ us, x.id ≠ id ∧ x.base ≠ base))
  case atStart => exact ⟨0, [], L, rfl, rfl, Lib.hid ⟨rfl, rfl, by simp⟩⟩
  case round =>
    obtain ⟨q, us, vs, rfl, rfl, HR⟩ := hrel
    have hr0 := cell_blk HB.out.root 0
    simp only [List.getElem?_toArray, List.getElem?_cons_zero] at hr0
    obtain ⟨b0, b1, b2, b3, b4, b5⟩ := blk6 BB.out
    cases vs with
    | cons x vs =>
      obtain ⟨g, rfl, _, c0, c1, c2, c3, c4, c5, _⟩ := row_cells HB.out.row rfl (i := us.length) (x := x) (by rw [HR.out.1]; simp)
      have hlt : us.length < L.length := by rw [HR.out.1]; simp
      clear c2 c3 c4 c5 b2 b3 b4 b5
      by_cases e1 : x.id = id
      · have e1b : (x.id == id) = true := by simpa using e1
        have E := Lib.hid e1
        clear e1
        go_wp2
        go_quiet (fail)
        go_wp2
        go_ret
        exact ⟨34, L, rfl, Lib.hid ⟨⟨F, H0.out.1.quiet ((FB.out.drewN q).drewN _), Step.none ((FB.out.drewN q).drewN _)⟩, .inr (.inl ⟨HC.out, ⟨x, by rw [HR.out.1]; simp, .inl E.out⟩, rfl, rfl⟩)⟩⟩
      · have e1b : (x.id == id) = false := by simpa using e1
        have E := Lib.hid e1
        clear e1
        by_cases e2 : x.base = base
        · have e2b : (x.base == base) = true := by simpa using e2
          have E2 := Lib.hid e2
          clear e2
          go_wp2
          go_quiet (fail)
          go_wp2
          go_ret
          exact ⟨34, L, rfl, Lib.hid ⟨⟨F, H0.out.1.quiet ((FB.out.drewN q).drewN _), Step.none ((FB.out.drewN q).drewN _)⟩, .inr (.inl ⟨HC.out, ⟨x, by rw [HR.out.1]; simp, .inr E2.out⟩, rfl, rfl⟩)⟩⟩
        · have e2b : (x.base == base) = false := by simpa using e2
          have E2 := Lib.hid e2
          clear e2
          go_wp2
          go_quiet (fail)
          go_wp2
          go_roundg vs.length
          case measure => have := HR.out.2.1; simp at this; omega
          case rel => 
            refine ⟨_, us ++ [x], vs, rfl, by simp, Lib.hid ⟨by rw [HR.out.1]; simp, rfl, fun y hy => ?_⟩⟩
            rcases List.mem_append.1 hy with hy | hy
            · exact HR.out.2.2 y hy
            · simp only [List.mem_singleton] at hy; subst hy; exact ⟨E.out, E2.out⟩
    | nil =>
      have hlen : decide (us.length < L.length) = false := by rw [HR.out.1]; simp
      go_wp2_with fail
      clear hr0 b0 b1 b2 b3 b4 b5
      have FQ := Lib.hid (show Fr (fun _ => False) w (wb.drewN q) from FB.out.drewN q)
      have HQ := Lib.hid (H.out.quiet FQ.out)
      have BQ := Lib.hid (show (wb.drewN q).heap[w.heap.size]? = some (.cells #[.int .i64 id, .int .u64 base, .int .i64 cls, .bool np, .bool fu, .bool sw] 63 (0, 0)) from BB.out)
      clear FB BB HB
      generalize wb.drewN q = W at *
      obtain ⟨b0, b1, b2, b3, b4, b5⟩ := blk6 BQ.out
      have hr0 := cell_blk HQ.out.root 0
      simp only [List.getElem?_toArray, List.getElem?_cons_zero] at hr0
      obtain ⟨i0, hi, hz0, hz1, hz2⟩ := info_parts info_one
      have fa : Fr (fun _ => False) W (W.alloc (.cells #[.int .i64 id, .int .u64 base, .int .i64 cls, .bool np, .bool fu, .bool sw] 63)).drew := ((Fr.refl _ W).alloc _).drew
      obtain ⟨v6, w6, r6, o6, f6, g6⟩ := run_append_row (P := Try.prog) (w := (W.alloc (.cells #[.int .i64 id, .int .u64 base, .int .i64 cls, .bool np, .bool fu, .bool sw] 63)).drew) 35 35 63 i0 _ 6 32 Try.underlying35 hi hz0 hz1 hz2 (by rfl) (by decide)
        (.slice a L.length c) L.length (cells6 L) (HQ.out.quiet fa).row (.slice (some ⟨W.heap.size, 0, none⟩) 1 1) 1 (cells6 [⟨b, id, base, (cls, np, fu, sw)⟩])
        (Rd.new (w := (W.alloc (.cells #[.int .i64 id, .int .u64 base, .int .i64 cls, .bool np, .bool fu, .bool sw] 63)).drew) (t := 63) (vs := [.int .i64 id, .int .u64 base, .int .i64 cls, .bool np, .bool fu, .bool sw]) (by show (W.alloc _).heap[_]? = _; rw [heap_alloc, if_pos rfl]) 6 1 rfl) (cells6_one _) (by simp only [maxLen]; omega) (by omega)
      obtain ⟨a6, c6, rfl⟩ := ownsRow_form o6
      have G6 := Lib.hid (And.intro f6 g6)
      have hne : ¬ (some r = (Value.slice a L.length c).ownBlock) := fun e => HQ.out.ne e.symm
      have E6 := Lib.hid (f6.at (fa.at HQ.out.root (fun x => x)) hne)
      have t0 := cell_blk (f6.at (fa.at HQ.out.root (fun x => x)) hne) 0
      have t1 := free_blk (f6.at (fa.at HQ.out.root (fun x => x)) hne) 0
      simp only [List.getElem?_toArray, List.getElem?_cons_zero] at t0
      have O6 := Lib.hid o6
      have hrW := lt_blk HQ.out.root
      have FA := Lib.hid fa
      clear o6 f6 g6 hne fa
      go_region_law (refine step_plain (by rfl) (wp_append_row _ _ 35 (by rfl) (by rfl) (by rfl) r6 ?_))
      all_goals (
        clear r6
        go_wp2
        go_ret
        have hg6 : ∀ g, (Value.slice a6 (L.length + 1) c6).ownBlock = some g → (Value.slice a L.length c).ownBlock = some g ∨ W.heap.size ≤ g := fun g hg => (G6.out.2 g hg).imp_right (fun h => Nat.le_trans FA.out.size h)
        have hner : Value.ownBlock (.slice a6 (L.length + 1) c6) ≠ some r := fun e => by
          rcases hg6 r e with h | h
          · exact HQ.out.ne h
          · omega
        have hi : Is (w6.setCell ⟨r, 0, none⟩ (.slice a6 (L.length + 1) c6)) r a6 c6 (L ++ [⟨b, id, base, (cls, np, fu, sw)⟩]) := by
          have hl2 : L.length + 1 = (L ++ [(⟨b, id, base, (cls, np, fu, sw)⟩ : It)]).length := by simp
          have o := O6.out
          rw [← cells6_append] at o
          rw [hl2] at o hner ⊢
          exact ⟨by rw [heap_setCell_at E6.out]; rfl, ownsRow_setCell_other o (by simpa using hner) _, hner⟩
        have hf : Fr F w (w6.setCell ⟨r, 0, none⟩ (.slice a6 (L.length + 1) c6)) :=
          (((FQ.out.trans FA.out (fun _ _ x => x)).mono (fun _ _ => False.elim)).trans (G6.out.1.mono (fun b _ hb => H0.out.2 b hb.symm)) (fun _ _ x => x)).setCell _ _ (.inl H0.out.1.r)
        refine ⟨0, _, rfl, Lib.hid ⟨H0.out.1.next hi (fun g hg => ?_) hf, .inr (.inr ⟨HC.out, fun x hx => (HR.out.2.2 x (by rw [HR.out.1] at hx; simpa using hx)).1, fun x hx => (HR.out.2.2 x (by rw [HR.out.1] at hx; simpa using hx)).2, rfl, rfl⟩)⟩⟩
        have e : (L ++ [(⟨b, id, base, (cls, np, fu, sw)⟩ : It)]).length = L.length + 1 := by simp
        rw [e] at hg
        rcases hg6 g hg with h | h
        · exact .inl (H0.out.2 g h)
        · exact .inr (by have := FQ.out.size; omega))

theorem put_any (b : Nat) {r : Nat} {L : List It} {F : Nat → Prop} (w : World) (h0 : Mine w r L F) (id base cls : Int) (np fu sw : Bool) (hn : L.length ≤ 1000000) :
    Calls Try.prog 18 #[.pointer (some ⟨r, 0, none⟩), .agg #[.int .i64 id, .int .u64 base, .int .i64 cls, .bool np, .bool fu, .bool sw]] w fun e w' => ∃ c L', e = .returned (.int .i64 c) ∧ Hid (Now w r L' F w' ∧ RPuts L id base cls np fu sw b c L') := by
  by_cases h1 : id < 1 ∨ cls < 0 ∨ 68 ≤ cls
  · exact (put_arg r w id base cls np fu sw h1).mono fun e w' ⟨he, hf⟩ => ⟨1, L, he, Lib.hid ⟨⟨F, h0.quiet hf, Step.none hf⟩, .inl ⟨h1, rfl, rfl⟩⟩⟩
  · exact put_ok b w h0 id base cls np fu sw (by omega) (by omega) (by omega) hn
end Rf
end Go.Proofs.Ytanaicjeheacoaa
