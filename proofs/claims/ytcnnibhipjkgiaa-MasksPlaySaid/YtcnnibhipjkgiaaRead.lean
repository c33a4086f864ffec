/-
  Read: the walk.
-/
import Derived.Test.YtcnnibhipjkgiaaPtrs
namespace Go.Proofs.Ytcnnibhipjkgiaa
open Go.RowKit Go.Deep

/-- the words that are told, the others not yet -/
def upTo (p : Nat → Bool) (fr e : Nat) (j : Nat) : Value := .bool (decide (fr + j < e) && p (fr + j))

/-- a row of truths that the call has made -/
def Told (w : World) (p : Nat → Bool) (fr n : Nat) (e : Ending) (w' : World) : Prop :=
  ∃ b, e = .returned (.tuple #[.slice (some ⟨b, 0, none⟩) n n, .int .i64 0]) ∧ w.heap.size ≤ b ∧ Hid (w'.rowIs b 4 n (fun j => .bool (p (fr + j)))) ∧ Hid (Fr (fun _ => False) w w')

set_option maxRecDepth 20000 in
set_option maxHeartbeats 4000000 in
theorem read_is {F : Nat → Prop} {m : Nat} {L : List PV} (w : World) (h : Is w m L F) (addr bytes : Nat) (ha : addr ≤ 18446744073709551615) (hb : bytes ≤ 1048576) (hk : L.length ≤ 1000000) (hR : Right addr bytes) :
    Calls Try.prog 9 #[.pointer (some ⟨m, 0, none⟩), .int .u64 addr, .int .u64 bytes] w (Told w (sem (L.map (·.1))) (addr / 8) (bytes / 8)) := by
  have hr := Lib.hid (right_any w addr bytes ha (by omega))
  have hd : decide (Right addr bytes) = true := by simpa using hR
  rw [hd] at hr
  obtain ⟨r1, r2, r3, r4⟩ := right_words hR
  obtain ⟨fr, hfr⟩ : ∃ fr, fr = addr / 8 := ⟨_, rfl⟩
  obtain ⟨tt, htt⟩ : ∃ tt, tt = (addr + bytes) / 8 := ⟨_, rfl⟩
  obtain ⟨n, hn⟩ : ∃ n, n = bytes / 8 := ⟨_, rfl⟩
  have hnt : fr + n = tt := by have := hR.1; have := hR.2.1; omega
  have d1 : ((addr : Nat) : Int) / 8 = ((fr : Nat) : Int) := by omega
  have d2 : (((addr : Nat) : Int) + ((bytes : Nat) : Int)) / 8 = ((tt : Nat) : Int) := by omega
  have d3 : ((tt : Nat) : Int) - ((fr : Nat) : Int) = ((n : Nat) : Int) := by omega
  have hn2 : n ≤ 131072 := by omega
  rw [← hfr, ← hn]
  rw [← hfr, ← htt] at r1
  rw [← htt] at r2
  have hat := Lib.hid (fun (W : World) (hW : Fr (fun _ => False) w W) => Lib.hid (at_any W (h.quiet hW) fr hk))
  have hmk : ∀ W : World, (Instr.makeSlice 22 (.int .u64 ((n : Nat) : Int)) (.int .u64 ((n : Nat) : Int))).run Try.prog W = .ok (.slice (some ⟨W.heap.size, 0, none⟩) n n) (W.alloc (.cells (madeCells #[.bool false] n) 4)) := fun W =>
    run_make_row' (P := Try.prog) 22 4 (.bool false) 1 Try.underlying22 Try.infoBool rfl .u64 .u64 n (by omega) (by omega) W
  have H := Lib.hid h
  have NT := Lib.hid (And.intro hnt (And.intro hfr htt))
  have hmlt : m < w.heap.size := by obtain ⟨_, _, h3, _⟩ := h.row; exact lt_blk h3
  have HML := Lib.hid hmlt
  clear hfr htt hn hR hd h hnt hmlt
  go_enter Try.func9, Try.ntmps9
  go_wp2_with (first | (go_at_call 16; refine hr.out.mono ?_; rintro e w1 ⟨rfl, rfl⟩) | (go_at_call 19; refine (hat.out _ ((Fr.refl _ w).alloc _)).out.mono ?_; rintro e w1 ⟨r, rfl, hr2, hf1⟩))
  clear d1 d2 d3 hr ha hb hat hmk
  go_loopg [11] L.length (fun kk i wr => ∃ (q e : Nat), i = .int .i64 q ∧ Hid (Fr (fun b => b = w.heap.size) w wr ∧ wr.rowIs w.heap.size 4 n (upTo (sem (L.map (·.1))) fr e) ∧ Going L fr tt e q ∧ L.length - q ≤ kk))
  case atStart =>
    refine ⟨r, fr, rfl, Lib.hid ⟨((Fr.refl _ w).alloc _).trans hf1.out (fun _ _ x => x.elim), ?_, Going.start (by omega) hr2.out.2.1 hr2.out.2.2, by omega⟩⟩
    have h1 := World.rowIs_made w (.bool false) n 4
    refine (h1.of_block (hf1.out.same _ h1.lt (fun x => x))).congr (fun j hj => ?_)
    unfold upTo
    have : decide (fr + j < fr) = false := by simp
    rw [this]; rfl
  case round =>
    obtain ⟨q, e, rfl, HG⟩ := hrel
    have HI := Lib.hid (H.out.fr HG.out.1 (fun b hb e => by have := H.out.lt b hb; omega) (fun e => by have := HML.out; omega))
    obtain ⟨al, cl, hp, hle, hpc⟩ := HI.out.piece
    by_cases hlt : q < L.length
    · obtain ⟨x, hxi⟩ : ∃ x, L[q]? = some x := ⟨_, List.getElem?_eq_getElem hlt⟩
      have hxf := HI.out.forms x (List.mem_of_getElem? hxi)
      have hok := rows_ok H.out.rows hxi
      obtain ⟨tx, ux, hux⟩ := form_iface hxf
      by_cases hin : x.1.from_ < tt
      · have GN := fun e' he => HG.out.2.2.1.next (e' := e') H.out.rows hxi hin r1 he
        have GC := fun lo hi h1 h2 => HG.out.2.2.1.count (lo := lo) (hi := hi) H.out.rows hxi hin r1 h1 h2
        have GP := fun z => HG.out.2.2.1.gap (z := z) H.out.rows hxi hin r1
        have GI := fun z => sem_in (z := z) H.out.rows hxi
        have GT := HG.out.2.2.1.todo q x (Nat.le_refl _) hxi
        obtain ⟨⟨xa, xb, xo, xm⟩, xv⟩ := x
        simp only at hux hxf hok hin GN GC GP GI GT
        subst hux
        obtain ⟨pb, po, rfl, hFb, c0, c1, c2, c3⟩ := hpc _ _ hxi
        simp only at c0 c1 c2 c3
        obtain ⟨lo, hlo⟩ : ∃ lo, (xa < fr ∧ lo = fr) ∨ (¬ xa < fr ∧ lo = xa) := by
          by_cases h : xa < fr
          · exact ⟨fr, .inl ⟨h, rfl⟩⟩
          · exact ⟨xa, .inr ⟨h, rfl⟩⟩
        obtain ⟨hi, hhi⟩ : ∃ hi, (tt < xb ∧ hi = tt) ∨ (¬ tt < xb ∧ hi = xb) := by
          by_cases h : tt < xb
          · exact ⟨tt, .inl ⟨h, rfl⟩⟩
          · exact ⟨xb, .inr ⟨h, rfl⟩⟩
        replace GN := GN hi (by split <;> omega)
        obtain ⟨-, g2, g3, g4⟩ := GC lo hi (by split <;> omega) (by split <;> omega)
        have l1 : fr ≤ lo := by omega
        have l2 : hi ≤ tt := by omega
        have l3 : xa ≤ lo := by omega
        have l4 : hi ≤ xb := by omega
        have el : e ≤ lo := by have := HG.out.2.2.1.lo; rcases GT.2 with h | h <;> omega
        have GL : Hid (wr.rowIs w.heap.size 4 n (upTo (sem (L.map (·.1))) fr lo)) := Lib.hid (HG.out.2.1.congr (fun j hj => by
          unfold upTo
          by_cases h1 : fr + j < e
          · have h3 : fr + j < lo := by omega
            simp [h1, h3]
          · by_cases h2 : fr + j < lo
            · simp [h1, h2, GP (fr + j) (by omega) (by omega)]
            · simp [h1, h2]))
        replace GI := Lib.hid (fun z (h1 : lo ≤ z) (h2 : z < hi) => GI z (by omega) (by omega))
        have HA := Lib.hid (fun (W : World) (hW : Fr (fun b => b = w.heap.size) wr W) (s : Nat) (hs : s ≤ 35184372088832) => form_at (hxf.fr hW (fun b hb e => by have := H.out.lt b hb; omega)) s hs)
        have hbl := GL.out.lt
        have HBL := Lib.hid hbl
        replace GN := Lib.hid GN
        clear GC GP GT hxi hle hxf hFb hpc hbl el
        rcases hlo with ⟨ha1, rfl⟩ | ⟨ha1, rfl⟩ <;> rcases hhi with ⟨hb1, rfl⟩ | ⟨hb1, rfl⟩
        -- ARMS-BEGIN
        · go_wp2_with fail
          obtain ⟨W, hW⟩ : ∃ W, W = wr.alloc (.cells #[.int .u64 (xa : Nat), .int .u64 (xb : Nat), .int .u64 (xo : Nat), .iface tx ux] 61) := ⟨_, rfl⟩
          rw [← hW]
          obtain ⟨X, hX⟩ : ∃ X, X = wr.heap.size := ⟨_, rfl⟩
          rw [← hX]
          have KW : Hid (Fr (fun _ => False) wr W ∧ W.heap[X]? = some (.cells #[.int .u64 (xa : Nat), .int .u64 (xb : Nat), .int .u64 (xo : Nat), .iface tx ux] 61 (0, 0)) ∧ W.rowIs w.heap.size 4 n (upTo (sem (L.map (·.1))) lo lo) ∧ X ≠ w.heap.size) := Lib.hid ⟨by rw [hW]; exact (Fr.refl _ _).alloc _, by rw [hW, hX, heap_alloc, if_pos rfl], by rw [hW]; exact GL.out.alloc _, by have := HBL.out; omega⟩
          clear hW hX hp c0 c1 c2 c3
          go_loopg [13] (hi - lo) (fun kk z w2 => ∃ zz : Nat, z = .int .u64 zz ∧ Hid (Fr (fun b => b = w.heap.size) W w2 ∧ w2.rowIs w.heap.size 4 n (upTo (sem (L.map (·.1))) lo zz) ∧ lo ≤ zz ∧ zz ≤ hi ∧ hi - zz ≤ kk))
          case atStart => exact ⟨lo, rfl, Lib.hid ⟨Fr.refl _ _, KW.out.2.2.1, Nat.le_refl _, g3, Nat.le_refl _⟩⟩
          case round =>
            obtain ⟨zz, rfl, HZ⟩ := hrel
            obtain ⟨x0, x1, x2, x3⟩ := blk4 (HZ.out.1.at KW.out.2.1 (fun e => KW.out.2.2.2 e))
            have hz1 := HZ.out.2.2.1
            have hz2 := HZ.out.2.2.2.1
            by_cases hzlt : zz < hi
            · obtain ⟨j, hj⟩ : ∃ j, zz = lo + j := ⟨zz - lo, by omega⟩
              obtain ⟨s, hs⟩ : ∃ s, s = zz - xo := ⟨_, rfl⟩
              have hjn : j < n := by have := NT.out.1; omega
              have z1 : ((zz : Nat) : Int) - ((lo : Nat) : Int) = ((j : Nat) : Int) := by omega
              have z2 : ((zz : Nat) : Int) - ((xo : Nat) : Int) = ((s : Nat) : Int) := by omega
              have z3 : s ≤ 35184372088832 := by omega
              have GV : Hid (sem (L.map (·.1)) (lo + j) = xm.at s) := Lib.hid (by rw [← hj, hs]; exact GI.out zz hz1 hzlt)
              have HFR : Hid (Fr (fun b => b = w.heap.size) _ wr) := Lib.hid ((KW.out.1.mono (T := fun b => b = w.heap.size) (fun _ _ x => x.elim)).trans HZ.out.1 (fun _ _ x => x))
              have HJ := Lib.hid hj
              clear hj hs
              go_wp2_with (refine wpList_invoke1 rfl _ _ "mallow/masks.at" #[23] rfl rfl rfl (HA.out _ HFR.out s z3) ?_; intro w3 hf3; have R3 := Lib.hid (HZ.out.2.1.of_block (hf3.same _ HZ.out.2.1.lt (fun x => x))); have y0 := R3.out.cell hjn; have y1 := R3.out.frozen j; have HF3 := Lib.hid hf3; clear hf3)
              go_roundg (hi - (zz + 1))
              case measure => have := HZ.out.2.2.2.2; omega
              case rel =>
                refine ⟨zz + 1, by go_num, Lib.hid ⟨(HZ.out.1.trans HF3.out (fun _ _ x => x.elim)).setCell _ _ (.inl rfl), (R3.out.set j _).congr (fun i hi => ?_), by omega, by omega, Nat.le_refl _⟩⟩
                have hj := HJ.out
                by_cases hij : i = j
                · subst hij
                  rw [if_pos rfl]
                  unfold upTo
                  have h5 : lo + i < zz + 1 := by omega
                  rw [GV.out]
                  simp [h5]
                · rw [if_neg hij]
                  unfold upTo
                  by_cases h6 : lo + i < zz
                  · have h5 : lo + i < zz + 1 := by omega
                    simp [h5, h6]
                  · have h5 : ¬ lo + i < zz + 1 := by omega
                    simp [h5, h6]
            · have hzz : zz = hi := by omega
              subst hzz
              go_wp2_with fail
              go_roundg (L.length - (q + 1))
              case measure => have := HG.out.2.2.2; omega
              case rel => exact ⟨q + 1, _, by go_num, Lib.hid ⟨HG.out.1.trans ((KW.out.1.mono (T := fun b => b = w.heap.size) (fun _ _ x => x.elim)).trans HZ.out.1 (fun _ _ x => x)) (fun _ _ x => x), HZ.out.2.1, GN.out, Nat.le_refl _⟩⟩
        · go_wp2_with fail
          obtain ⟨W, hW⟩ : ∃ W, W = wr.alloc (.cells #[.int .u64 (xa : Nat), .int .u64 (hi : Nat), .int .u64 (xo : Nat), .iface tx ux] 61) := ⟨_, rfl⟩
          rw [← hW]
          obtain ⟨X, hX⟩ : ∃ X, X = wr.heap.size := ⟨_, rfl⟩
          rw [← hX]
          have KW : Hid (Fr (fun _ => False) wr W ∧ W.heap[X]? = some (.cells #[.int .u64 (xa : Nat), .int .u64 (hi : Nat), .int .u64 (xo : Nat), .iface tx ux] 61 (0, 0)) ∧ W.rowIs w.heap.size 4 n (upTo (sem (L.map (·.1))) lo lo) ∧ X ≠ w.heap.size) := Lib.hid ⟨by rw [hW]; exact (Fr.refl _ _).alloc _, by rw [hW, hX, heap_alloc, if_pos rfl], by rw [hW]; exact GL.out.alloc _, by have := HBL.out; omega⟩
          clear hW hX hp c0 c1 c2 c3
          go_loopg [13] (hi - lo) (fun kk z w2 => ∃ zz : Nat, z = .int .u64 zz ∧ Hid (Fr (fun b => b = w.heap.size) W w2 ∧ w2.rowIs w.heap.size 4 n (upTo (sem (L.map (·.1))) lo zz) ∧ lo ≤ zz ∧ zz ≤ hi ∧ hi - zz ≤ kk))
          case atStart => exact ⟨lo, rfl, Lib.hid ⟨Fr.refl _ _, KW.out.2.2.1, Nat.le_refl _, g3, Nat.le_refl _⟩⟩
          case round =>
            obtain ⟨zz, rfl, HZ⟩ := hrel
            obtain ⟨x0, x1, x2, x3⟩ := blk4 (HZ.out.1.at KW.out.2.1 (fun e => KW.out.2.2.2 e))
            have hz1 := HZ.out.2.2.1
            have hz2 := HZ.out.2.2.2.1
            by_cases hzlt : zz < hi
            · obtain ⟨j, hj⟩ : ∃ j, zz = lo + j := ⟨zz - lo, by omega⟩
              obtain ⟨s, hs⟩ : ∃ s, s = zz - xo := ⟨_, rfl⟩
              have hjn : j < n := by have := NT.out.1; omega
              have z1 : ((zz : Nat) : Int) - ((lo : Nat) : Int) = ((j : Nat) : Int) := by omega
              have z2 : ((zz : Nat) : Int) - ((xo : Nat) : Int) = ((s : Nat) : Int) := by omega
              have z3 : s ≤ 35184372088832 := by omega
              have GV : Hid (sem (L.map (·.1)) (lo + j) = xm.at s) := Lib.hid (by rw [← hj, hs]; exact GI.out zz hz1 hzlt)
              have HFR : Hid (Fr (fun b => b = w.heap.size) _ wr) := Lib.hid ((KW.out.1.mono (T := fun b => b = w.heap.size) (fun _ _ x => x.elim)).trans HZ.out.1 (fun _ _ x => x))
              have HJ := Lib.hid hj
              clear hj hs
              go_wp2_with (refine wpList_invoke1 rfl _ _ "mallow/masks.at" #[23] rfl rfl rfl (HA.out _ HFR.out s z3) ?_; intro w3 hf3; have R3 := Lib.hid (HZ.out.2.1.of_block (hf3.same _ HZ.out.2.1.lt (fun x => x))); have y0 := R3.out.cell hjn; have y1 := R3.out.frozen j; have HF3 := Lib.hid hf3; clear hf3)
              go_roundg (hi - (zz + 1))
              case measure => have := HZ.out.2.2.2.2; omega
              case rel =>
                refine ⟨zz + 1, by go_num, Lib.hid ⟨(HZ.out.1.trans HF3.out (fun _ _ x => x.elim)).setCell _ _ (.inl rfl), (R3.out.set j _).congr (fun i hi => ?_), by omega, by omega, Nat.le_refl _⟩⟩
                have hj := HJ.out
                by_cases hij : i = j
                · subst hij
                  rw [if_pos rfl]
                  unfold upTo
                  have h5 : lo + i < zz + 1 := by omega
                  rw [GV.out]
                  simp [h5]
                · rw [if_neg hij]
                  unfold upTo
                  by_cases h6 : lo + i < zz
                  · have h5 : lo + i < zz + 1 := by omega
                    simp [h5, h6]
                  · have h5 : ¬ lo + i < zz + 1 := by omega
                    simp [h5, h6]
            · have hzz : zz = hi := by omega
              subst hzz
              go_wp2_with fail
              go_roundg (L.length - (q + 1))
              case measure => have := HG.out.2.2.2; omega
              case rel => exact ⟨q + 1, _, by go_num, Lib.hid ⟨HG.out.1.trans ((KW.out.1.mono (T := fun b => b = w.heap.size) (fun _ _ x => x.elim)).trans HZ.out.1 (fun _ _ x => x)) (fun _ _ x => x), HZ.out.2.1, GN.out, Nat.le_refl _⟩⟩
        · go_wp2_with fail
          obtain ⟨W, hW⟩ : ∃ W, W = wr.alloc (.cells #[.int .u64 (lo : Nat), .int .u64 (xb : Nat), .int .u64 (xo : Nat), .iface tx ux] 61) := ⟨_, rfl⟩
          rw [← hW]
          obtain ⟨X, hX⟩ : ∃ X, X = wr.heap.size := ⟨_, rfl⟩
          rw [← hX]
          have KW : Hid (Fr (fun _ => False) wr W ∧ W.heap[X]? = some (.cells #[.int .u64 (lo : Nat), .int .u64 (xb : Nat), .int .u64 (xo : Nat), .iface tx ux] 61 (0, 0)) ∧ W.rowIs w.heap.size 4 n (upTo (sem (L.map (·.1))) fr lo) ∧ X ≠ w.heap.size) := Lib.hid ⟨by rw [hW]; exact (Fr.refl _ _).alloc _, by rw [hW, hX, heap_alloc, if_pos rfl], by rw [hW]; exact GL.out.alloc _, by have := HBL.out; omega⟩
          clear hW hX hp c0 c1 c2 c3
          go_loopg [13] (hi - lo) (fun kk z w2 => ∃ zz : Nat, z = .int .u64 zz ∧ Hid (Fr (fun b => b = w.heap.size) W w2 ∧ w2.rowIs w.heap.size 4 n (upTo (sem (L.map (·.1))) fr zz) ∧ lo ≤ zz ∧ zz ≤ hi ∧ hi - zz ≤ kk))
          case atStart => exact ⟨lo, rfl, Lib.hid ⟨Fr.refl _ _, KW.out.2.2.1, Nat.le_refl _, g3, Nat.le_refl _⟩⟩
          case round =>
            obtain ⟨zz, rfl, HZ⟩ := hrel
            obtain ⟨x0, x1, x2, x3⟩ := blk4 (HZ.out.1.at KW.out.2.1 (fun e => KW.out.2.2.2 e))
            have hz1 := HZ.out.2.2.1
            have hz2 := HZ.out.2.2.2.1
            by_cases hzlt : zz < hi
            · obtain ⟨j, hj⟩ : ∃ j, zz = fr + j := ⟨zz - fr, by omega⟩
              obtain ⟨s, hs⟩ : ∃ s, s = zz - xo := ⟨_, rfl⟩
              have hjn : j < n := by have := NT.out.1; omega
              have z1 : ((zz : Nat) : Int) - ((fr : Nat) : Int) = ((j : Nat) : Int) := by omega
              have z2 : ((zz : Nat) : Int) - ((xo : Nat) : Int) = ((s : Nat) : Int) := by omega
              have z3 : s ≤ 35184372088832 := by omega
              have GV : Hid (sem (L.map (·.1)) (fr + j) = xm.at s) := Lib.hid (by rw [← hj, hs]; exact GI.out zz hz1 hzlt)
              have HFR : Hid (Fr (fun b => b = w.heap.size) _ wr) := Lib.hid ((KW.out.1.mono (T := fun b => b = w.heap.size) (fun _ _ x => x.elim)).trans HZ.out.1 (fun _ _ x => x))
              have HJ := Lib.hid hj
              clear hj hs
              go_wp2_with (refine wpList_invoke1 rfl _ _ "mallow/masks.at" #[23] rfl rfl rfl (HA.out _ HFR.out s z3) ?_; intro w3 hf3; have R3 := Lib.hid (HZ.out.2.1.of_block (hf3.same _ HZ.out.2.1.lt (fun x => x))); have y0 := R3.out.cell hjn; have y1 := R3.out.frozen j; have HF3 := Lib.hid hf3; clear hf3)
              go_roundg (hi - (zz + 1))
              case measure => have := HZ.out.2.2.2.2; omega
              case rel =>
                refine ⟨zz + 1, by go_num, Lib.hid ⟨(HZ.out.1.trans HF3.out (fun _ _ x => x.elim)).setCell _ _ (.inl rfl), (R3.out.set j _).congr (fun i hi => ?_), by omega, by omega, Nat.le_refl _⟩⟩
                have hj := HJ.out
                by_cases hij : i = j
                · subst hij
                  rw [if_pos rfl]
                  unfold upTo
                  have h5 : fr + i < zz + 1 := by omega
                  rw [GV.out]
                  simp [h5]
                · rw [if_neg hij]
                  unfold upTo
                  by_cases h6 : fr + i < zz
                  · have h5 : fr + i < zz + 1 := by omega
                    simp [h5, h6]
                  · have h5 : ¬ fr + i < zz + 1 := by omega
                    simp [h5, h6]
            · have hzz : zz = hi := by omega
              subst hzz
              go_wp2_with fail
              go_roundg (L.length - (q + 1))
              case measure => have := HG.out.2.2.2; omega
              case rel => exact ⟨q + 1, _, by go_num, Lib.hid ⟨HG.out.1.trans ((KW.out.1.mono (T := fun b => b = w.heap.size) (fun _ _ x => x.elim)).trans HZ.out.1 (fun _ _ x => x)) (fun _ _ x => x), HZ.out.2.1, GN.out, Nat.le_refl _⟩⟩
        · go_wp2_with fail
          obtain ⟨W, hW⟩ : ∃ W, W = wr.alloc (.cells #[.int .u64 (lo : Nat), .int .u64 (hi : Nat), .int .u64 (xo : Nat), .iface tx ux] 61) := ⟨_, rfl⟩
          rw [← hW]
          obtain ⟨X, hX⟩ : ∃ X, X = wr.heap.size := ⟨_, rfl⟩
          rw [← hX]
          have KW : Hid (Fr (fun _ => False) wr W ∧ W.heap[X]? = some (.cells #[.int .u64 (lo : Nat), .int .u64 (hi : Nat), .int .u64 (xo : Nat), .iface tx ux] 61 (0, 0)) ∧ W.rowIs w.heap.size 4 n (upTo (sem (L.map (·.1))) fr lo) ∧ X ≠ w.heap.size) := Lib.hid ⟨by rw [hW]; exact (Fr.refl _ _).alloc _, by rw [hW, hX, heap_alloc, if_pos rfl], by rw [hW]; exact GL.out.alloc _, by have := HBL.out; omega⟩
          clear hW hX hp c0 c1 c2 c3
          go_loopg [13] (hi - lo) (fun kk z w2 => ∃ zz : Nat, z = .int .u64 zz ∧ Hid (Fr (fun b => b = w.heap.size) W w2 ∧ w2.rowIs w.heap.size 4 n (upTo (sem (L.map (·.1))) fr zz) ∧ lo ≤ zz ∧ zz ≤ hi ∧ hi - zz ≤ kk))
          case atStart => exact ⟨lo, rfl, Lib.hid ⟨Fr.refl _ _, KW.out.2.2.1, Nat.le_refl _, g3, Nat.le_refl _⟩⟩
          case round =>
            obtain ⟨zz, rfl, HZ⟩ := hrel
            obtain ⟨x0, x1, x2, x3⟩ := blk4 (HZ.out.1.at KW.out.2.1 (fun e => KW.out.2.2.2 e))
            have hz1 := HZ.out.2.2.1
            have hz2 := HZ.out.2.2.2.1
            by_cases hzlt : zz < hi
            · obtain ⟨j, hj⟩ : ∃ j, zz = fr + j := ⟨zz - fr, by omega⟩
              obtain ⟨s, hs⟩ : ∃ s, s = zz - xo := ⟨_, rfl⟩
              have hjn : j < n := by have := NT.out.1; omega
              have z1 : ((zz : Nat) : Int) - ((fr : Nat) : Int) = ((j : Nat) : Int) := by omega
              have z2 : ((zz : Nat) : Int) - ((xo : Nat) : Int) = ((s : Nat) : Int) := by omega
              have z3 : s ≤ 35184372088832 := by omega
              have GV : Hid (sem (L.map (·.1)) (fr + j) = xm.at s) := Lib.hid (by rw [← hj, hs]; exact GI.out zz hz1 hzlt)
              have HFR : Hid (Fr (fun b => b = w.heap.size) _ wr) := Lib.hid ((KW.out.1.mono (T := fun b => b = w.heap.size) (fun _ _ x => x.elim)).trans HZ.out.1 (fun _ _ x => x))
              have HJ := Lib.hid hj
              clear hj hs
              go_wp2_with (refine wpList_invoke1 rfl _ _ "mallow/masks.at" #[23] rfl rfl rfl (HA.out _ HFR.out s z3) ?_; intro w3 hf3; have R3 := Lib.hid (HZ.out.2.1.of_block (hf3.same _ HZ.out.2.1.lt (fun x => x))); have y0 := R3.out.cell hjn; have y1 := R3.out.frozen j; have HF3 := Lib.hid hf3; clear hf3)
              go_roundg (hi - (zz + 1))
              case measure => have := HZ.out.2.2.2.2; omega
              case rel =>
                refine ⟨zz + 1, by go_num, Lib.hid ⟨(HZ.out.1.trans HF3.out (fun _ _ x => x.elim)).setCell _ _ (.inl rfl), (R3.out.set j _).congr (fun i hi => ?_), by omega, by omega, Nat.le_refl _⟩⟩
                have hj := HJ.out
                by_cases hij : i = j
                · subst hij
                  rw [if_pos rfl]
                  unfold upTo
                  have h5 : fr + i < zz + 1 := by omega
                  rw [GV.out]
                  simp [h5]
                · rw [if_neg hij]
                  unfold upTo
                  by_cases h6 : fr + i < zz
                  · have h5 : fr + i < zz + 1 := by omega
                    simp [h5, h6]
                  · have h5 : ¬ fr + i < zz + 1 := by omega
                    simp [h5, h6]
            · have hzz : zz = hi := by omega
              subst hzz
              go_wp2_with fail
              go_roundg (L.length - (q + 1))
              case measure => have := HG.out.2.2.2; omega
              case rel => exact ⟨q + 1, _, by go_num, Lib.hid ⟨HG.out.1.trans ((KW.out.1.mono (T := fun b => b = w.heap.size) (fun _ _ x => x.elim)).trans HZ.out.1 (fun _ _ x => x)) (fun _ _ x => x), HZ.out.2.1, GN.out, Nat.le_refl _⟩⟩
        -- ARMS-END
      · obtain ⟨pb, po, rfl, hFb, c0, c1, c2, c3⟩ := hpc _ _ hxi
        have GA := Lib.hid (fun z => HG.out.2.2.1.end_ (z := z) H.out.rows (fun y hy => by rw [hxi] at hy; cases hy; omega))
        clear hpc hxi hxf hle hFb hux
        go_wp2_with fail
        go_ret2
        exact ⟨w.heap.size, rfl, Nat.le_refl _, Lib.hid (HG.out.2.1.congr (fun j hj => by
          unfold upTo
          by_cases h1 : fr + j < e
          · simp [h1]
          · have := NT.out.1
            simp [h1, GA.out (fr + j) (by omega) (by omega)])), Lib.hid (HG.out.1.mono (fun b hb e => by omega))⟩
    · have GA := Lib.hid (fun z => HG.out.2.2.1.end_ (z := z) H.out.rows (fun y hy => by have := (List.getElem?_eq_some_iff.1 hy).1; omega))
      clear hpc hle
      go_wp2_with fail
      go_ret2
      exact ⟨w.heap.size, rfl, Nat.le_refl _, Lib.hid (HG.out.2.1.congr (fun j hj => by
        unfold upTo
        by_cases h1 : fr + j < e
        · simp [h1]
        · have := NT.out.1
          simp [h1, GA.out (fr + j) (by omega) (by omega)])), Lib.hid (HG.out.1.mono (fun b hb e => by omega))⟩
set_option maxHeartbeats 1000000 in
theorem read_no (m : Nat) (w : World) (addr bytes : Nat) (ha : addr ≤ 18446744073709551615) (hb : bytes ≤ 18446744073709551615) (hR : ¬ Right addr bytes) :
    Calls Try.prog 9 #[.pointer (some ⟨m, 0, none⟩), .int .u64 addr, .int .u64 bytes] w fun e w' => e = .returned (.tuple #[.slice none 0 0, .int .i64 1]) ∧ w = w' := by
  have hr := Lib.hid (right_any w addr bytes ha hb)
  have hd : decide (Right addr bytes) = false := by simpa using hR
  rw [hd] at hr
  clear hR hd
  go_enter Try.func9, Try.ntmps9
  go_wp2_with (first | (go_at_call 16; refine hr.out.mono ?_; rintro e w1 ⟨rfl, rfl⟩))
  go_ret2
  exact ⟨rfl, rfl⟩

set_option maxHeartbeats 1000000 in
theorem read_long (m : Nat) (w : World) (addr bytes : Nat) (ha : addr ≤ 18446744073709551615) (hb : bytes ≤ 18446744073709551615) (hR : Right addr bytes) (hl : 1048576 < bytes) :
    Calls Try.prog 9 #[.pointer (some ⟨m, 0, none⟩), .int .u64 addr, .int .u64 bytes] w fun e w' => e = .returned (.tuple #[.slice none 0 0, .int .i64 2]) ∧ w = w' := by
  have hr := Lib.hid (right_any w addr bytes ha hb)
  have hd : decide (Right addr bytes) = true := by simpa using hR
  rw [hd] at hr
  clear hR hd
  go_enter Try.func9, Try.ntmps9
  go_wp2_with (first | (go_at_call 16; refine hr.out.mono ?_; rintro e w1 ⟨rfl, rfl⟩))
  go_ret2
  exact ⟨rfl, rfl⟩

theorem read_any {F : Nat → Prop} {m k : Nat} {p : Nat → Bool} (w : World) (h : Mine w m p k F) (addr bytes : Nat) (ha : addr ≤ 18446744073709551615) (hb : bytes ≤ 1048576) (hk : k ≤ 1000000) (hR : Right addr bytes) :
    Calls Try.prog 9 #[.pointer (some ⟨m, 0, none⟩), .int .u64 addr, .int .u64 bytes] w (Told w p (addr / 8) (bytes / 8)) := by
  obtain ⟨L, h1, h2, h3⟩ := h
  refine (read_is w h1 addr bytes ha hb (by omega) hR).mono ?_
  rintro e w' ⟨b, h4, h5, h6, h7⟩
  exact ⟨b, h4, h5, Lib.hid (h6.out.congr (fun j _ => by rw [h3])), h7⟩
end Go.Proofs.Ytcnnibhipjkgiaa
