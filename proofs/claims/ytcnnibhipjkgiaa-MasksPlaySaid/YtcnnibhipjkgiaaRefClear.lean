/-
  The reference: Clear.
-/
import Derived.Test.YtcnnibhipjkgiaaRefNo
namespace Go.Proofs.Ytcnnibhipjkgiaa.Rf
open Go.RowKit Go.Deep

set_option maxRecDepth 20000 in
set_option maxHeartbeats 4000000 in
theorem clear_ok {G : Nat → Prop} {r : Nat} {L : List WV} (w : World) (h : Is w r L G) (addr bytes : Nat) (hR : Right addr bytes) (hL : L.length ≤ 100000) :
    Calls Try.prog 21 #[.pointer (some ⟨r, 0, none⟩), .int .u64 addr, .int .u64 bytes] w (Wrote w r L G ⟨addr, bytes, [false], 0⟩) := by
  obtain ⟨ra, rc, hc, hown, hB, hM⟩ := h.row
  have PI := Lib.hid (fun (w2 w3 : World) (a2 a' : Option Addr) (c2 c' : Nat) f2 own2 f3 own3 hg => put_is (x := ⟨addr, bytes, [false], 0⟩) (w2 := w2) (w3 := w3) (a2 := a2) (a' := a') (c2 := c2) (c' := c') h ⟨hR, by simp, by simp, by simp⟩ hc hB hM f2 own2 f3 own3 hg)
  obtain ⟨r1, r2, r3, r4⟩ := right_words hR
  have hr := Lib.hid (right_any w addr bytes (by omega) (by omega))
  rw [decide_eq_true hR] at hr
  have HO := Lib.hid hown
  have HO2 : Hid (∀ g, (Value.slice ra L.length rc).ownBlock = some g → g ≠ r) := Lib.hid (fun g hg e => h.own (e ▸ hB g hg))
  have HC := Lib.hid hc
  have hrl := lt_blk hc
  have cp := cell_blk hc 0
  clear h hc hown hB hM hR r1 r2
  obtain ⟨iw, wi, wz0, wz1, wz2⟩ := info_parts Try.infoWriting
  have m3 : L.length + 1 ≤ maxLen := by simp only [maxLen]; omega
  have m4 : (L.length + 1) * 56 ≤ 140737488355328 := by omega
  obtain ⟨W, hW⟩ : ∃ W, W = w.alloc (.cells #[.bool false] 4) := ⟨_, rfl⟩
  obtain ⟨X, hX⟩ : ∃ X, X = w.heap.size := ⟨_, rfl⟩
  have f1 : Fr (fun _ => False) w W := by rw [hW]; exact (Fr.refl _ w).alloc _
  have own2 : W.ownsRow w.heap.size 4 1 (.slice (some ⟨X, 0, none⟩) 1 1) 1 [.bool false] :=
    ⟨rfl, .inr ⟨X, 1, #[.bool false], rfl, by rw [hX]; exact Nat.le_refl _, by rw [hW, hX, heap_alloc, if_pos rfl], Nat.le_refl _, by simp [maxLen], rfl, rfl⟩⟩
  obtain ⟨v6, w3, r6, o6, f6, g6⟩ := run_append_row (P := Try.prog) (w := W.alloc (.cells #[.int .u64 (addr : Nat), .int .u64 (bytes : Nat), .int .i64 1, .slice (some ⟨X, 0, none⟩) 1 1, .int .u64 0] 73)) 43 43 73 iw _ 5 56 Try.underlying43 wi wz0 wz1 wz2 (by rfl) (by decide)
    (.slice ra L.length rc) L.length (L.flatMap wcc) (ownsRow_fr HO.out (f1.alloc _) (fun _ x => x.elim)) (.slice (some ⟨W.heap.size, 0, none⟩) 1 1) 1 (wcc (⟨addr, bytes, [false], 0⟩, .slice (some ⟨X, 0, none⟩) 1 1)) (Rd.new (t := 73) (by rw [heap_alloc]; exact if_pos rfl) 5 1 rfl) (wcc_one _ _ _ _ rfl) m3 m4
  obtain ⟨a3, c3, rfl⟩ := ownsRow_form o6
  have hne : ¬ (some r = (Value.slice ra L.length rc).ownBlock) := fun e => HO2.out r e.symm rfl
  have E6 := f6.at ((f1.alloc _).at HC.out (fun x => x)) hne
  have s0 := cell_blk E6 0
  have s1 := free_blk E6 0
  have FIN := Lib.hid (PI.out W w3 (some ⟨X, 0, none⟩) a3 1 c3 f1 own2 (((Fr.refl _ W).alloc _).trans f6 (fun _ _ x => x)) o6 (fun g hg => by
    rcases g6 g hg with h | h
    · exact .inl h
    · rw [size_alloc] at h; exact .inr (by omega)))
  rw [hX] at r6
  rw [hW] at r6
  have hsz : (w.alloc (.cells #[.bool false] 4)).heap.size = w.heap.size + 1 := size_alloc _ _
  rw [hsz] at r6
  clear hX hW f1 own2 o6 f6 g6 hne E6 hsz
  go_enter Try.func21, Try.ntmps21
  go_wp2_with (first
    | (go_at_call 26; refine hr.out.mono ?_; rintro e w1 ⟨rfl, rfl⟩)
    | (at_builtin; refine wpList_plain rfl fun K hK => ?_; refine wp_append_row _ _ 43 rfl rfl rfl r6 ?_; refine hK _ _ ?_))
  go_ret
  exact ⟨rfl, FIN⟩
end Go.Proofs.Ytcnnibhipjkgiaa.Rf
