/-
  act: write.
-/
import Derived.Test.YtcnnibhipjkgiaaKopy
namespace Go.Proofs.Ytcnnibhipjkgiaa
open Go.RowKit Go.Deep

variable {w0 w : World} {m r k : Nat} {L : List Rf.WV}

set_option maxRecDepth 100000 in
set_option maxHeartbeats 20000000 in
theorem act_write (h : Duo (fun _ => False) w0 w m r (Rf.rsem (L.map (·.1))) L k) (hk : k ≤ 100000) (hL : L.length ≤ 10000) (ad by_ : Nat) (ha : ad ≤ 18446744073709551615) (hb : by_ ≤ 18446744073709551615) (wd : Int) (bs : List Bool) (a : Option Addr) (c n : Nat) (hn : n ≤ 18446744073709551615)
    (hbs : bs.length ≤ 20000) (hrd : Rd w0 1 (.slice a bs.length c) bs.length (bs.map .bool)) :
    Calls Try.prog 14 #[.pointer (some ⟨m, 0, none⟩), .pointer (some ⟨r, 0, none⟩), .agg #[.int .i64 1, .int .u64 (ad : Nat), .int .u64 (by_ : Nat), .int .i64 wd, .slice a bs.length c, .int .u64 (n : Nat)]] w (Acted w0 w m r k L) := by
  have H := Lib.hid h
  have HRD := Lib.hid (hrd.fr h.fr (fun _ _ x => x))
  obtain ⟨E, hE⟩ : ∃ E, E = wcode ad by_ wd bs.length n := ⟨_, rfl⟩
  obtain ⟨p', hp'⟩ : ∃ p' : Nat → Bool, p' = (if E = 0 then over (ad / 8) ((ad + by_) / 8) (fmOf bs n).at (Rf.rsem (L.map (·.1))) else Rf.rsem (L.map (·.1))) := ⟨_, rfl⟩
  have MW := Lib.hid (fun (A : Nat → Prop) (W : World) (a : Option Addr) (c : Nat) (hd : Duo A w0 W m r (Rf.rsem (L.map (·.1))) L k) hrd => duo_write hd ad by_ ha hb (by omega) wd bs a c n hn hrd)
  have RW := Lib.hid (fun (A : Nat → Prop) (W : World) (hd : Duo A w0 W m r p' L (k + 2)) => duo_ref_any hd ad by_ ha hb (by omega) wd bs a c n hn (hrd.fr hd.fr (fun _ _ x => x)))
  have HA : Hid (∀ (A : Nat → Prop) (W : World) (L2 : List Rf.WV) (hd : Duo A w0 W m r p' L2 (k + 2)), Rd W 1 (.slice a bs.length c) bs.length (bs.map .bool)) := Lib.hid (fun A W L2 hd => hrd.fr hd.fr (fun _ _ x => x))
  rw [← hE, ← hp'] at MW RW
  have TA := Lib.hid (fun (W : World) (a b : Option Addr) (c d : Nat) ha hb => truths_same W bs bs.length a b c d rfl ha hb (by omega))
  have hne := ne_errno E
  clear h hrd hE hp'
  go_enter Try.func14, Try.ntmps14
  go_upto_region 3 with fail
  obtain ⟨W, hW⟩ : ∃ W, W = w.alloc (actBox ⟨1, ad, by_, wd, bs, a, c, n⟩) := ⟨_, rfl⟩
  rw [show w.alloc (.cells #[.int .i64 1, .int .u64 (ad : Nat), .int .u64 (by_ : Nat), .int .i64 wd, .slice a bs.length c, .int .u64 (n : Nat)] 48) = W from hW.symm]
  obtain ⟨X, hX⟩ : ∃ X, X = w.heap.size := ⟨_, rfl⟩
  rw [← hX]
  have hXb : W.heap[X]? = some (actBox ⟨1, ad, by_, wd, bs, a, c, n⟩) := by rw [hW, hX, heap_alloc, if_pos rfl]
  have FW := Lib.hid (show Fr (fun _ => False) w W by rw [hW]; exact (Fr.refl _ _).alloc _)
  have HR1 : Hid (Rd W 1 (.slice a bs.length c) bs.length (bs.map .bool)) := Lib.hid (HRD.out.fr FW.out (fun _ _ x => x))
  have x3 := cell_blk hXb 3
  have x4 := cell_blk hXb 4
  have KP := Lib.hid (fun (w' : World) (hf : Fr (fun _ => False) W w') => (⟨cell_through hf x3 (fun x => x), cell_through hf x4 (fun x => x)⟩ : w'.cell? ⟨X, 3, none⟩ = some (.int .i64 wd) ∧ w'.cell? ⟨X, 4, none⟩ = some (.slice a bs.length c)))
  have HXW := Lib.hid (And.intro hX hXb)
  clear hW hX hXb
  go_cut [7] (fun i7 wx => ∃ (T : Nat) (a3 : Option Addr) (c3 : Nat), i7 = .pointer (some ⟨T, 0, none⟩) ∧ bs.length + 1 ≤ c3 ∧ Hid (Kopy W wx T wd a3 c3 bs))
  case first =>
    go_region_held3 (fun w' => w'.cell? ⟨X, 3, none⟩ = some (.int .i64 wd) ∧ w'.cell? ⟨X, 4, none⟩ = some (.slice a bs.length c)) (first | exact KP.out _ (by repeat (first | exact hA2.out.frW | exact hA1.out.frW | exact Fr.refl _ _ | refine Fr.drew ?_ | refine Fr.alloc ?_ _ | (refine Fr.setCell ?_ _ _ (.inr (by have := hA1.out.frW.size; simp only; omega))))) | go_keep) ((first
      | (have := hA1; refine step_plain (by rfl) (wp_app2 _ _ (by rfl) hA1 (by rfl) (by rfl) (by first | (simp only [heap_drew, heap_alloc, size_alloc]; simp; done) | (simp only [heap_drew, heap_alloc, size_alloc]; (repeat (first | rw [if_pos (by omega)] | rw [if_neg (by omega)])); done) | exact (show Fr (fun _ => False) _ _ by repeat (first | exact Fr.refl _ _ | refine Fr.drew ?_ | refine Fr.alloc ?_ _)).at (hA1.out.fr.at (by first | ((repeat (first | rw [heap_drew] | exact heap_at (by first | (simp [size_alloc]; done) | fail) | refine heap_old ?_)); done) | fail) (by first | (simp; done) | (intro e; simp only at e; omega) | omega)) (fun x => x)) (by repeat (first | exact Fr.refl _ _ | refine Fr.drew ?_ | refine Fr.alloc ?_ _)) hbs ?_); rintro a3 c3 w3 hc3 hA2; have hc4 : ((bs.length : Nat) : Int) ≤ ((c3 : Nat) : Int) := (by omega); have hc5 : (0 : Int) ≤ ((bs.length : Nat) : Int) := (by omega); (first | have hT3 := hA2.out.keepT ((show Fr (fun _ => False) w2 _ by repeat (first | exact Fr.refl _ _ | refine Fr.drew ?_ | refine Fr.alloc ?_ _)).at hT.1 (fun x => x)) hT.2 | have hT3 := hA2.out.keepT (Tb := w2.heap.size) (Z := typBox 0 (.slice none 0 0)) (by first | ((repeat (first | rw [heap_drew] | exact heap_at (by first | (simp [size_alloc]; done) | fail) | refine heap_old ?_)); done) | fail) (hA1.out.far (by first | (simp; done) | (intro e; simp only at e; omega) | omega)) | have hT3 := hA2.out.keepT (Tb := w2.heap.size+ 1) (Z := typBox 0 (.slice none 0 0)) (by first | ((repeat (first | rw [heap_drew] | exact heap_at (by first | (simp [size_alloc]; done) | fail) | refine heap_old ?_)); done) | fail) (hA1.out.far (by first | (simp; done) | (intro e; simp only at e; omega) | omega)) | skip); (try (have tc0 := cell_blk hT3.1 0; have tc1 := cell_blk hT3.1 1; have tf0 := free_blk hT3.1 0; have tf1 := free_blk hT3.1 1)))
      | (refine step_plain (by rfl) (wp_app1 _ _ (by rfl) (by rfl) (by rfl) (by first | ((repeat (first | rw [heap_drew] | exact heap_at (by first | (simp [size_alloc]; done) | fail) | refine heap_old ?_)); done) | fail) (by first | (simp [heap_drew, size_alloc]; done) | (simp only [heap_drew, size_alloc]; omega) | omega) (by repeat (first | exact Fr.refl _ _ | refine Fr.drew ?_ | refine Fr.alloc ?_ _)) HR1 hbs ?_); rintro a2 c2 w2 hc2 hA1; (try have hT := hA1.out.keepT (Tb := W.heap.size) (Z := typBox 0 (.slice none 0 0)) (by first | ((repeat (first | rw [heap_drew] | exact heap_at (by first | (simp [size_alloc]; done) | fail) | refine heap_old ?_)); done) | fail) (by first | (simp; done) | (intro e; simp only at e; omega) | omega)); (try have hT := hA1.out.keepT (Tb := W.heap.size+ 1) (Z := typBox 0 (.slice none 0 0)) (by first | ((repeat (first | rw [heap_drew] | exact heap_at (by first | (simp [size_alloc]; done) | fail) | refine heap_old ?_)); done) | fail) (by first | (simp; done) | (intro e; simp only at e; omega) | omega)); (try have hT := hA1.out.keepT (Tb := W.heap.size+ 2) (Z := typBox 0 (.slice none 0 0)) (by first | ((repeat (first | rw [heap_drew] | exact heap_at (by first | (simp [size_alloc]; done) | fail) | refine heap_old ?_)); done) | fail) (by first | (simp; done) | (intro e; simp only at e; omega) | omega)))))
    all_goals
      go_wp2_with fail
      go_meet
      first
        | exact ⟨_, a3, c3, rfl, hc3, Lib.hid (kopy_in hA2 hT3 (by have := hA1.out.frW.size; omega))⟩
        | exact ⟨_, a3, c3, rfl, hc3, Lib.hid (kopy_in hA2 hT3 (by have := hA1.out.frW.size; omega)).drew⟩
        | exact ⟨_, a3, c3, rfl, hc3, Lib.hid (kopy_end2 hA2)⟩
        | exact ⟨_, a3, c3, rfl, hc3, Lib.hid (kopy_end2 hA2).drew⟩
  case rest =>
    obtain ⟨T, a3, c3, rfl, hc3, HK⟩ := hcut
    obtain ⟨g, z, rfl, hm3, hgW, hgT, hrow⟩ := HK.out.row
    go_wp2_with fail
    have HROW := Lib.hid hrow
    obtain ⟨A, hA⟩ : ∃ A : Nat → Prop, A = fun b => w.heap.size ≤ b ∧ b < wc.heap.size := ⟨_, rfl⟩
    have FX : Hid (Fr (fun _ => False) w wc) := Lib.hid (FW.out.trans HK.out.fr (fun _ _ x => x))
    have D0 : Hid (Duo A w0 wc m r (Rf.rsem (L.map (·.1))) L k) := Lib.hid (H.out.avoid FX.out (fun b hb => .inr (by rw [hA] at hb; exact hb)))
    have hXx : wc.heap[X]? = some (actBox ⟨1, ad, by_, wd, bs, a, c, n⟩) := HK.out.fr.at HXW.out.2 (fun x => x)
    have hTx := HK.out.typ
    have hAX : A X := by rw [hA]; exact ⟨by rw [HXW.out.1]; exact Nat.le_refl _, lt_blk hXx⟩
    have hAT : A T := by rw [hA]; exact ⟨Nat.le_trans FW.out.size HK.out.lie.1, lt_blk hTx⟩
    have hAg : A g := by rw [hA]; exact ⟨Nat.le_trans FW.out.size hgW, hrow.lt⟩
    have hcn : wc.cell? ⟨g, bs.length, none⟩ = some (.bool true) := by
      rw [hrow.cell (by omega)]; unfold kopyRow; rw [if_neg (by omega), if_pos rfl]
    have KP2 := Lib.hid (fun (w' : World) (hf : Fr (Far A w0) wc w') => (⟨far_cell hf (cell_blk hXx 1) (.inl hAX), far_cell hf (cell_blk hXx 2) (.inl hAX), far_cell hf (cell_blk hXx 3) (.inl hAX), far_cell hf (cell_blk hXx 4) (.inl hAX), far_cell hf (cell_blk hXx 5) (.inl hAX), far_cell hf (cell_blk hTx 0) (.inl hAT), far_cell hf (cell_blk hTx 1) (.inl hAT), far_cell hf hcn (.inl hAg)⟩ :
      w'.cell? ⟨X, 1, none⟩ = some (.int .u64 (ad : Nat)) ∧ w'.cell? ⟨X, 2, none⟩ = some (.int .u64 (by_ : Nat)) ∧ w'.cell? ⟨X, 3, none⟩ = some (.int .i64 wd) ∧ w'.cell? ⟨X, 4, none⟩ = some (.slice a bs.length c) ∧ w'.cell? ⟨X, 5, none⟩ = some (.int .u64 (n : Nat)) ∧ w'.cell? ⟨T, 0, none⟩ = some (.int .i64 wd) ∧ w'.cell? ⟨T, 1, none⟩ = some (.slice (some ⟨g, 0, none⟩) bs.length c3) ∧ w'.cell? ⟨g, bs.length, none⟩ = some (.bool true)))
    have RG := Lib.hid (fun (w' : World) (hf : Fr (Far A w0) wc w') => hrow.of_block (hf.same _ hrow.lt (fun x => x.2 hAg)))
    have HIN := Lib.hid (And.intro hA (And.intro hAX (And.intro hAT (And.intro hAg hgT))))
    obtain ⟨k1, k2, k3, k4, k5, k6, k7, k8⟩ := KP2.out wc (Fr.refl _ _)
    have i1 : (0 : Int) ≤ ((bs.length : Nat) : Int) := by omega
    have i2 : ((bs.length : Nat) : Int) + 1 ≤ ((c3 : Nat) : Int) := by omega
    have i3 : ((bs.length : Nat) : Int) < ((bs.length : Nat) : Int) + 1 := by omega
    have i4 : (0 : Int) ≤ ((bs.length : Nat) : Int) + 1 := by omega
    have hc5 : bs.length ≤ c3 := by omega
    clear hrow hXx hTx hAX hAT hAg hcn hA hgW hgT x3 x4
    have hw : IntKind.i64.wrap (((bs.length : Nat) : Int) + 1) = ((bs.length : Nat) : Int) + 1 := IntWalk.i64_in _ (by omega)
    go_region_held3 (fun w' => w'.cell? ⟨X, 1, none⟩ = some (.int .u64 (ad : Nat)) ∧ w'.cell? ⟨X, 2, none⟩ = some (.int .u64 (by_ : Nat)) ∧ w'.cell? ⟨X, 3, none⟩ = some (.int .i64 wd) ∧ w'.cell? ⟨X, 4, none⟩ = some (.slice a bs.length c) ∧ w'.cell? ⟨X, 5, none⟩ = some (.int .u64 (n : Nat)) ∧ w'.cell? ⟨T, 0, none⟩ = some (.int .i64 wd) ∧ w'.cell? ⟨T, 1, none⟩ = some (.slice (some ⟨g, 0, none⟩) bs.length c3) ∧ w'.cell? ⟨g, bs.length, none⟩ = some (.bool true)) (first | exact KP2.out _ hs5.out.2 | exact KP2.out _ hF4.out | exact KP2.out _ hF3.out | exact KP2.out _ (Fr.refl _ _) | exact KP2.out _ (Fr.refl _ _).drew | go_keep) ((first
      | (go_at_call 12; (with_reducible refine (TA.out _ _ _ _ _ (rd_kopy (RG.out _ hF4.out) hc5 hm3) (HA.out _ _ _ hD4.out)).mono ?_); rintro e w5 ⟨rfl, hs5'⟩; have hs5 : Hid (Fr (fun _ => False) _ w5 ∧ Fr (Far A w0) wc w5) := Lib.hid ⟨hs5'.out.fr, hF4.out.trans hs5'.out.fr (fun _ _ x => x.elim)⟩)
      | (go_at_call 20; (with_reducible refine (RW.out _ _ hD3.out).mono ?_); rintro e w4 ⟨L2, rfl, hD4, hL4, hF4'⟩; have hF4 := Lib.hid (hF3.out.trans hF4'.out (fun _ _ x => x)))
      | (go_at_call 8; (with_reducible refine (MW.out A _ _ _ (D0.out.quiet (Fr.refl _ _).drew) (rd_kopy (RG.out _ (Fr.refl _ _).drew) hc5 hm3)).mono ?_); rintro e w3 ⟨rfl, hD3, hF3'⟩; have hF3 := Lib.hid ((Fr.refl (Far A w0) wc).drew.trans hF3'.out (fun _ _ x => x)))))
    have D4 : Hid (Duo A w0 w5 m r p' L2 (k + 2)) := Lib.hid (hD4.out.quiet hs5'.out.fr)
    have G0 := Lib.hid (RG.out _ hs5.out.2)
    clear hD3 hF3 hF3' hD4 hF4 hF4' hs5'
    go_wp2_with fail
    have HT1 := Lib.hid (show w5.cell? ⟨T, 1, none⟩ = some (.slice (some ⟨g, 0, none⟩) bs.length c3) from (KP2.out _ hs5.out.2).2.2.2.2.2.2.1)
    clear k1 k2 k3 k4 k5 k6 k7 k8 i1 i2 i3 i4 hw
    go_loopg [8] bs.length (fun kk i wr => ∃ q : Nat, i = .int .i64 q ∧ Hid (q ≤ bs.length ∧ wr.rowIs g 4 c3 (kopyRow bs z q) ∧ Fr (fun b => b = g) w5 wr ∧ bs.length - q ≤ kk))
    case atStart => exact ⟨0, rfl, Lib.hid ⟨Nat.zero_le _, G0.out, Fr.refl _ _, Nat.le_refl _⟩⟩
    case round =>
      obtain ⟨q, rfl, HQ⟩ := hrel
      have t1 := cell_through HQ.out.2.2.1 HT1.out (fun e => HIN.out.2.2.2.2 e.symm)
      by_cases hlt : q < bs.length
      · have hgq := HQ.out.2.1.cell (show q < c3 by omega)
        unfold kopyRow turnTo at hgq
        rw [if_pos hlt, if_neg (Nat.lt_irrefl q)] at hgq
        have hfz := HQ.out.2.1.frozen q
        go_wp2
        go_region
        all_goals
          go_wp2
          go_roundg (bs.length - (q + 1))
          case measure => have := HQ.out.2.2.2; omega
          case rel => exact ⟨q + 1, by go_num, Lib.hid ⟨hlt, kopy_set HQ.out.2.1 hlt, ((HQ.out.2.2.1).setCell ⟨g, q, none⟩ _ (.inl rfl)).drew, Nat.le_refl _⟩⟩
      · go_wp2_with fail
        go_ret
        refine ⟨rfl, Lib.hid ⟨L2, ?_, hL4.out.1⟩⟩
        rw [hL4.out.2]
        exact (D4.out.frA (HQ.out.2.2.1.mono (fun b _ e => e ▸ HIN.out.2.2.2.1))).forget (fun _ (x : False) => x.elim)
end Go.Proofs.Ytcnnibhipjkgiaa
